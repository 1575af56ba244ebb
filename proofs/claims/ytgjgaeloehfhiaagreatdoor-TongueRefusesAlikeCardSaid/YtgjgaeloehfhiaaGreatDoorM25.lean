/- A source read: declarations and statements. -/
import Derived.Test.YtgjgaeloehfhiaaGreatDoorM24
namespace Go.Proofs.YtgjgaeloehfhiaaGreatDoor
open Go.RowKit

def prDecls (toks : List Tok) : Nat → Nat → List (Tok × Nat) → Except Nat (List (Tok × Nat) × Nat)
  | 0, _, _ => .error 0
  | f + 1, at_, acc =>
    if isB (toks.getD at_ default) ⟨#[118, 97, 114]⟩ then
      match prDecl toks at_ with
      | .error n => .error n
      | .ok (d, a) => prDecls toks f a (acc ++ [d])
    else .ok (acc, at_)
def prBody (toks : List Tok) : Nat → Nat → List Ast → Except Nat (List Ast)
  | 0, _, _ => .error 0
  | f + 1, at_, acc =>
    if (toks.getD at_ default).kind = 4 then .ok acc
    else match pr toks (need toks.length at_ .stmt) .stmt at_ with
      | .error n => .error n
      | .ok (s, a) => prBody toks f a (acc ++ [s])
/-- What a source's tokens come to: declarations and statements, or the line of the fault. -/
def readF (toks : List Tok) : Except Nat (List (Tok × Nat) × List Ast) :=
  match prDecls toks (toks.length + 1) 0 [] with
  | .error n => .error n
  | .ok (ds, a) => match prBody toks (toks.length + 1) a [] with
    | .error n => .error n
    | .ok l => .ok (ds, l)

def declCells (d : Tok × Nat) : List Value := [.int .i64 d.1.kind, .string d.1.text, .int .i64 d.1.line, .int .u32 d.1.num, .int .u32 d.2]

/-- A program in memory. -/
def ProgAt (w : World) (lo : Nat) (ds : List (Tok × Nat)) (l : List Ast) (v : Value) : Prop :=
  ∃ pb vd vb, v = .pointer (some ⟨pb, 0, none⟩) ∧ lo ≤ pb ∧ w.heap[pb]? = some (.cells #[vd, vb] 67 (0, 0)) ∧
    w.ownsRow lo 71 5 vd ds.length (ds.flatMap declCells) ∧ AstAt w lo w.heap.size (ofList l) vb

def ReadPost (w : World) : Except Nat (List (Tok × Nat) × List Ast) → Ending → World → Prop
  | .ok (ds, l), e, w' => ∃ v, e = .returned (.tuple #[v, .agg #[.int .i64 0, .int .i64 0]]) ∧ Ext w w' ∧ ProgAt w' w.heap.size ds l v
  | .error ln, e, w' => e = .returned (.tuple #[.pointer none, .agg #[.int .i64 ln, .int .i64 230]]) ∧ Ext w w'

theorem info71 : (Tryz.prog.info? 71).map (fun i => (i.zero, i.size, i.bytes)) = some (some (.agg #[.int .i64 0, .string ⟨#[]⟩, .int .i64 0, .int .u32 0, .int .u32 0]), 5, 48) := by kernel_rfl

theorem results24_run {tmps : Array Value} {P Q : Nat} {v x y : Value} {w : World} (h2 : tmps[2]? = some (.pointer (some ⟨P, 0, none⟩))) (h3 : tmps[3]? = some (.pointer (some ⟨Q, 0, none⟩)))
    (hp : w.heap[P]? = some (.cells #[v] 47 (0, 0))) (hq : w.heap[Q]? = some (.cells #[x, y] 92 (0, 0))) : (results Tryz.f24 tmps).run Tryz.prog w = .ok (.tuple #[v, .agg #[x, y]]) w := by
  have c0 := cell_of_heap (o := 0) hp
  have c1 := cell_of_heap (o := 0) hq
  have c2 := cell_of_heap (o := 1) hq
  simp only [List.getElem?_toArray, List.getElem?_cons_zero, List.getElem?_cons_succ] at c0 c1 c2
  simp [results, Tryz.results24, h2, h3, go_sem, c0, c1, c2]

theorem door_ok {tmps : Array Value} {P Q : Nat} {v x y : Value} {w : World} {R : Ending → World → Prop} (h2 : tmps[2]? = some (.pointer (some ⟨P, 0, none⟩))) (h3 : tmps[3]? = some (.pointer (some ⟨Q, 0, none⟩)))
    (hp : w.heap[P]? = some (.cells #[v] 47 (0, 0))) (hq : w.heap[Q]? = some (.cells #[x, y] 92 (0, 0))) (h : R (.returned (.tuple #[v, .agg #[x, y]])) w) :
    Leaves Tryz.prog Tryz.f24 tmps R [{ target := .fn (.func 48) #[.pointer (some ⟨P, 0, none⟩), .pointer (some ⟨Q, 0, none⟩)], args := #[] }] .returning w := by
  refine leaves_cons (f := 48) (args := #[.pointer (some ⟨P, 0, none⟩), .pointer (some ⟨Q, 0, none⟩)]) (by simp) (by simp [go_sem]) ?_
  refine (catch_idle _ _ _).mono ?_
  rintro e u' w'' ⟨rfl, rfl, rfl⟩
  exact ⟨_, results24_run h2 h3 hp hq, h⟩

theorem door_panic {tmps : Array Value} {P Q : Nat} (hPQ : P ≠ Q) {v x y : Value} {ln : Nat} {w : World} {R : Ending → World → Prop} (h2 : tmps[2]? = some (.pointer (some ⟨P, 0, none⟩))) (h3 : tmps[3]? = some (.pointer (some ⟨Q, 0, none⟩)))
    (hp : w.heap[P]? = some (.cells #[v] 47 (0, 0))) (hq : w.heap[Q]? = some (.cells #[x, y] 92 (0, 0)))
    (h : ∀ w' : World, (∀ k, k < w.heap.size → k ≠ P → k ≠ Q → w'.heap[k]? = w.heap[k]?) → w.heap.size ≤ w'.heap.size → w'.os = w.os → w'.tape = w.tape → w'.output = w.output → R (.returned (.tuple #[.pointer none, .agg #[.int .i64 ln, .int .i64 230]])) w') :
    Leaves Tryz.prog Tryz.f24 tmps R [{ target := .fn (.func 48) #[.pointer (some ⟨P, 0, none⟩), .pointer (some ⟨Q, 0, none⟩)], args := #[] }] (.panicking [{ v := faultV ln 230, recovered := false }]) w := by
  refine leaves_cons (f := 48) (args := #[.pointer (some ⟨P, 0, none⟩), .pointer (some ⟨Q, 0, none⟩)]) (by simp) (by simp [go_sem]) ?_
  refine (catch_panicking P Q hPQ ln v x y w hp hq).mono ?_
  rintro e u' w' ⟨rfl, rfl, hp', hq', h1, h4, h5, h6, h7⟩
  exact ⟨_, results24_run h2 h3 hp' hq', h w' h1 h4 h5 h6 h7⟩

/-- What stands while a source is read. -/
structure Core (w : World) (toks : List Tok) (rb lb cap a : Nat) (wr : World) : Prop where
  rd : RdAt wr rb lb cap toks a
  p : wr.heap[w.heap.size]? = some (.cells #[.pointer (some ⟨rb + 1, 0, none⟩)] 47 (0, 0))
  f : wr.heap[w.heap.size + 1]? = some (.cells #[.int .i64 0, .int .i64 0] 92 (0, 0))
  ext : Ext w wr

theorem Core.keep {w : World} {toks : List Tok} {rb lb cap a : Nat} {w1 w2 : World} (h : Core w toks rb lb cap a w1) (hb : Ext w1 w2) : Core w toks rb lb cap a w2 :=
  ⟨h.rd.keep hb, (hb.block _ (cells_of_heap h.p).2.2).trans h.p, (hb.block _ (cells_of_heap h.f).2.2).trans h.f, h.ext.trans hb⟩
/-- .. behind a part that was read: the reader's block changed, and what the program's list is made of. -/
theorem Core.move {w : World} {toks : List Tok} {rb lb cap a b : Nat} {w1 w2 : World} (h : Core w toks rb lb cap a w1) (hr : RdAt w2 rb lb cap toks b) (hs : w1.heap.size ≤ w2.heap.size) (ho : w2.os = w1.os) (ht : w2.tape = w1.tape) (hp : w2.output = w1.output)
    (hk : ∀ k, k < w.heap.size + 2 → w2.heap[k]? = w1.heap[k]?) : Core w toks rb lb cap b w2 :=
  ⟨hr, (hk _ (by omega)).trans h.p, (hk _ (by omega)).trans h.f, ⟨ho.trans h.ext.os, ht.trans h.ext.tape, hp.trans h.ext.output, Nat.le_trans h.ext.size hs, fun k hk' => (hk k (by omega)).trans (h.ext.block k hk')⟩⟩

/-- The loop over the declarations. -/
def DeclsRel (w : World) (toks : List Tok) (rb lb cap : Nat) (R : Except Nat (List (Tok × Nat) × Nat)) (wr : World) : Prop :=
  ∃ (g a : Nat) (acc : List (Tok × Nat)) (vd : Value), prDecls toks g a acc = R ∧ toks.length < g + a ∧ acc.length ≤ a ∧ Core w toks rb lb cap a wr ∧
    wr.heap[rb + 1]? = some (.cells #[vd, .slice none 0 0] 67 (0, 0)) ∧ wr.ownsRow (rb + 2) 71 5 vd acc.length (acc.flatMap declCells)

/-- The loop over the statements. -/
def BodyRel (w : World) (toks : List Tok) (rb lb cap B : Nat) (ds : List (Tok × Nat)) (vd : Value) (R : Except Nat (List Ast)) (wr : World) : Prop :=
  ∃ (g a : Nat) (acc : List Ast) (vb : Value), prBody toks g a acc = R ∧ toks.length < g + a ∧ acc.length ≤ a ∧ Core w toks rb lb cap a wr ∧
    wr.heap[rb + 1]? = some (.cells #[vd, vb] 67 (0, 0)) ∧ wr.ownsRow (rb + 2) 71 5 vd ds.length (ds.flatMap declCells) ∧ (∀ q, vd.ownBlock = some q → q < B) ∧ B ≤ wr.heap.size ∧ AccAt wr B vb acc

theorem declFlat_len : ∀ l : List (Tok × Nat), (l.flatMap declCells).length = l.length * 5
  | [] => rfl
  | t :: l => by rw [List.flatMap_cons, List.length_append, declFlat_len l, List.length_cons]; simp [declCells]; omega

theorem prDecl_least {toks : List Tok} {a b : Nat} {d : Tok × Nat} (h : prDecl toks a = .ok (d, b)) : a + 1 ≤ b := by
  simp only [prDecl] at h
  grind

set_option maxRecDepth 100000 in
set_option maxHeartbeats 3200000 in
theorem read_any {N : Nat} (s : ByteArray) (hs : s.size < 90000) (w : World) (hG : Gl N w) :
    Calls Tryz.prog 24 #[.string s] w (ReadPost w (readF (cutF s))) := by
  have hmf : ∀ (fn : Fn) (first cap : Array Value) (w : World), (Instr.makeFunc fn first cap).run Tryz.prog w = .ok (.func fn first cap) w := fun _ _ _ _ => rfl
  have hcut := fun w' (hb : Ext w w') => cut_any s hs w' (hG.ext hb)
  have hOK := cutF_ok s
  generalize cutF s = toks at *
  have HGL := Lib.hid hG
  have hNS : N ≤ w.heap.size := by obtain ⟨w0, _, h1, h2⟩ := hG; have := h2.size; omega
  clear hG
  go_enter_defers Tryz.func24, Tryz.ntmps24
  go_wp2_with fail
  refine (hcut _ (((Ext.refl w).alloc _).alloc _)).mono ?_
  rintro e w1 ⟨lb, cap, rfl, hlb1, hlb2, harr, hE1⟩
  simp only [szA] at hlb1
  have x1 := hE1.size
  simp only [szA] at x1
  have g0 : w1.heap[w.heap.size]? = some (.cells #[.pointer none] 47 (0, 0)) := by
    rw [hE1.block _ (by simp only [szA]; omega), heapA, if_neg (by simp only [szA]; omega), heapA, if_pos rfl]
  have g1 : w1.heap[w.heap.size + 1]? = some (.cells #[.int .i64 0, .int .i64 0] 92 (0, 0)) := by
    rw [hE1.block _ (by simp only [szA]; omega), heapA, if_pos (by simp only [szA])]
  obtain ⟨c0, c1, -⟩ := cells_of_heap g0
  have c0 := c0 0
  have c1 := c1 0
  simp only [List.getElem?_toArray, List.getElem?_cons_zero] at c0
  have HE1 := Lib.hid (((Ext.refl w).alloc _).alloc _ |>.trans hE1)
  have HG0 := Lib.hid g0
  have HG1 := Lib.hid g1
  clear hE1 g0 g1
  have n1 : w.heap.size < w1.heap.size := by omega
  have n2 : w.heap.size < w1.heap.size + 1 := by omega
  have n3 : w.heap.size ≠ w1.heap.size := by omega
  have n4 : w.heap.size ≠ w1.heap.size + 1 := by omega
  go_wp2_with fail
  have HREL : Hid (DeclsRel w toks w1.heap.size lb cap (prDecls toks (toks.length + 1) 0 []) (((w1.setCell ⟨w.heap.size, 0, none⟩ (.pointer (some ⟨w1.heap.size + 1, 0, none⟩))).alloc
      (.cells #[.slice (some ⟨lb, 0, none⟩) toks.length cap, .int .i64 0] 140)).alloc (.cells #[.slice none 0 0, .slice none 0 0] 67))) := by
    refine Lib.hid ⟨toks.length + 1, 0, [], _, rfl, by omega, Nat.le_refl _, ⟨?_, ?_, ?_, ?_⟩, ?_, World.ownsRow_nil _ _ _ _⟩
    · have hc : (((w1.setCell ⟨w.heap.size, 0, none⟩ (.pointer (some ⟨w1.heap.size + 1, 0, none⟩))).alloc
          (.cells #[.slice (some ⟨lb, 0, none⟩) toks.length cap, .int .i64 0] 140)).alloc (.cells #[.slice none 0 0, .slice none 0 0] 67)).heap[w1.heap.size]? = some (.cells #[.slice (some ⟨lb, 0, none⟩) toks.length cap, .int .i64 0] 140 (0, 0)) := by
        rw [heapA, if_neg (by simp only [szA, szS]; omega), heapA, if_pos (by simp only [szS])]
      have hsame : ∀ o, (((w1.setCell ⟨w.heap.size, 0, none⟩ (.pointer (some ⟨w1.heap.size + 1, 0, none⟩))).alloc
          (.cells #[.slice (some ⟨lb, 0, none⟩) toks.length cap, .int .i64 0] 140)).alloc (.cells #[.slice none 0 0, .slice none 0 0] 67)).cell? ⟨lb, o, none⟩ = w1.cell? ⟨lb, o, none⟩ := fun o => cell_same (by
        rw [heapA, if_neg (by simp only [szA, szS]; omega), heapA, if_neg (by simp only [szS]; omega), heapS, if_neg (by omega)])
      obtain ⟨k0, k1, -⟩ := cells_of_heap hc
      refine ⟨k0 0, k0 1, k1 1, by simp only [szA, szS]; omega, by simp only [szA, szS]; omega, by omega, ?_, by have := hOK.len; omega, hOK.ne, hOK.fin⟩
      intro i hi
      obtain ⟨a, b, c, d⟩ := harr i hi
      exact ⟨(hsame _).trans a, (hsame _).trans b, (hsame _).trans c, (hsame _).trans d⟩
    · rw [heapA, if_neg (by simp only [szA, szS]; omega), heapA, if_neg (by simp only [szS]; omega), heapS, if_pos rfl, HG0.out]; rfl
    · rw [heapA, if_neg (by simp only [szA, szS]; omega), heapA, if_neg (by simp only [szS]; omega), heapS, if_neg (by omega), HG1.out]
    · exact ((HE1.out.setCell (Nat.le_refl _) _).alloc _).alloc _
    · rw [heapA, if_pos (by simp only [szA, szS])]
  have hlen : toks.length ≤ 90001 := by have := hOK.len; omega
  have Hsp : Hid (readF toks = match prDecls toks (toks.length + 1) 0 [] with
    | .error n => .error n
    | .ok (ds, a) => match prBody toks (toks.length + 1) a [] with
      | .error n => .error n
      | .ok l => .ok (ds, l)) := Lib.hid rfl
  generalize prDecls toks (toks.length + 1) 0 [] = R1 at *
  generalize readF toks = RR at *
  clear harr c0 c1 hcut
  go_loopw [12] (fun _ wr => DeclsRel w toks w1.heap.size lb cap R1 wr) (fun _ wr => rdLeft w1.heap.size toks.length wr)
  case atStart => exact HREL.out
  case round =>
    obtain ⟨g, a, acc, vd, hR, hneed, hacc, hcore, hprog, hrow⟩ := hrel
    have hq := is_any wr ⟨#[118, 97, 114]⟩ hcore.rd
    have hal := hcore.rd.at_lt
    obtain ⟨g, rfl⟩ : ∃ m, g = m + 1 := ⟨g - 1, by omega⟩
    have HC := Lib.hid hcore
    have HP := Lib.hid hprog
    have HW := Lib.hid hrow
    have hszw := (cells_of_heap hprog).2.2
    clear hcore hprog hrow HREL
    cases hi : isB (toks.getD a default) ⟨#[118, 97, 114]⟩ with
    | false =>
      rw [hi] at hq
      have HR2 : Hid (R1 = .ok (acc, a)) := by
        show _ = _
        rw [← hR]; simp only [prDecls]; rw [hi]; rfl
      clear hR
      go_wp2_with fail
      refine hq.mono ?_
      rintro e w3 ⟨rfl, hb⟩
      go_wp2_with fail
      have HREL : Hid (BodyRel w toks w1.heap.size lb cap w3.heap.size acc vd (prBody toks (toks.length + 1) a []) w3) := by
        refine Lib.hid ⟨toks.length + 1, a, [], _, rfl, by omega, Nat.zero_le _, HC.out.keep hb, (hb.block _ hszw).trans HP.out, own_keep HW.out (fun q hq => hb.block q (own_block HW.out hq).2) (Nat.le_refl _),
          fun q hq => by have := (own_block HW.out hq).2; have := hb.size; omega, Nat.le_refl _, AccAt.nil _ _⟩
      have Hsp2 : Hid (RR = match prBody toks (toks.length + 1) a [] with
        | .error n => .error n
        | .ok l => .ok (acc, l)) := by
        show _ = _
        rw [Hsp.out, HR2.out]
      have hB : w1.heap.size + 1 < w3.heap.size := by have := hb.size; omega
      generalize prBody toks (toks.length + 1) a [] = R2 at *
      generalize w3.heap.size = B at *
      clear HC HP HW HR2 Hsp hq
      clear hb hi hacc hszw
      rename List (Tok × Nat) => ds
      go_loopw [25] (fun _ wr => BodyRel w toks w1.heap.size lb cap B ds vd R2 wr) (fun _ wr => rdLeft w1.heap.size toks.length wr)
      case atStart => exact HREL.out
      case round =>
        obtain ⟨g, a, acc, vb, hR, hneed, hacc, hcore, hprog, hrow, hvd, hBw, hA⟩ := hrel
        have hq := peek_any wr hcore.rd
        have hal := hcore.rd.at_lt
        obtain ⟨g, rfl⟩ : ∃ m, g = m + 1 := ⟨g - 1, by omega⟩
        have HC := Lib.hid hcore
        have HP := Lib.hid hprog
        have HW := Lib.hid hrow
        have HA := Lib.hid hA
        have hszw := (cells_of_heap hprog).2.2
        have hfl := run_field69_0
        clear hcore hprog hrow hA HREL
        have hR0 := hR
        simp only [prBody] at hR0
        have HRR := Lib.hid hR0
        clear hR hR0
        have hkk : Hid ((toks.getD a default).kind = (toks.getD a default).kind) := Lib.hid rfl
        generalize hk : toks.getD a default = t at *
        obtain ⟨kind, text, line, num⟩ := t
        simp only at HRR
        by_cases h4 : kind = 4
        · subst h4
          have HR3 : Hid (R2 = .ok acc) := by
            show _ = _
            rw [← HRR.out, if_pos rfl]
          clear HRR hkk hk
          go_wp2_with fail
          refine hq.mono ?_
          rintro e w4 ⟨rfl, hb⟩
          have x4 := hb.size
          go_wp2_with fail
          have hc4 := HC.out.keep hb
          have p4 := (hb.block _ hszw).trans HP.out
          obtain ⟨e0, e1, e2⟩ := cells_of_heap hc4.p
          obtain ⟨e3, e4, e5⟩ := cells_of_heap hc4.f
          have e6 := e3 1
          have e7 := e4 1
          have e0 := e0 0
          have e1 := e1 0
          have e3 := e3 0
          have e4 := e4 0
          simp only [List.getElem?_toArray, List.getElem?_cons_zero, List.getElem?_cons_succ] at e0 e3 e6
          have HC4 := Lib.hid hc4
          clear hc4
          refine wp_region_plan2 (fun w' => w'.cell? ⟨w.heap.size, 0, none⟩ = some (.pointer (some ⟨w1.heap.size + 1, 0, none⟩)) ∧ w'.cell? ⟨w.heap.size + 1, 0, none⟩ = some (.int .i64 0) ∧ w'.cell? ⟨w.heap.size + 1, 1, none⟩ = some (.int .i64 0) ∧
              w'.frozen? ⟨w.heap.size, 0, none⟩ = false ∧ w'.frozen? ⟨w.heap.size + 1, 0, none⟩ = false ∧ w'.frozen? ⟨w.heap.size + 1, 1, none⟩ = false)
            [(0, true), (1, true), (2, false), (3, false)] true (by kernel_rfl) (by kernel_rfl) (fun i o hm ho c a v w h => door_put (plan_dsts (by kernel_rfl) i o hm ho) h) ⟨e0, e3, e6, e1, e4, e7⟩ ?_
          iterate 2 (refine ⟨_, ?_, rfl, Or.inl ⟨by rfl, ?_⟩, ?_⟩; rotate_left; (· intro w' hSw; (try dsimp only at hSw); go_simp; (try with_reducible rfl)); simp only [Act.put, List.setIfInBounds_toArray])
          refine wpPlan_act rfl (by rfl) (fun K hK => ?_)
          go_simp
          have q0 : (w4.setCell ⟨w.heap.size, 0, none⟩ (.pointer (some ⟨w1.heap.size + 1, 0, none⟩))).heap[w.heap.size]? = some (.cells #[.pointer (some ⟨w1.heap.size + 1, 0, none⟩)] 47 (0, 0)) := by
            rw [heapS, if_pos rfl, HC4.out.p]; rfl
          have q1 : (w4.setCell ⟨w.heap.size, 0, none⟩ (.pointer (some ⟨w1.heap.size + 1, 0, none⟩))).heap[w.heap.size + 1]? = some (.cells #[.int .i64 0, .int .i64 0] 92 (0, 0)) := by
            rw [heapS, if_neg (by omega), HC4.out.f]
          obtain ⟨m0, m1, -⟩ := cells_of_heap q0
          obtain ⟨m3, m4, -⟩ := cells_of_heap q1
          have m6 := m3 1
          have m7 := m4 1
          have m0 := m0 0
          have m1 := m1 0
          have m3 := m3 0
          have m4 := m4 0
          simp only [List.getElem?_toArray, List.getElem?_cons_zero, List.getElem?_cons_succ] at m0 m3 m6
          have Q0 := Lib.hid q0
          have Q1 := Lib.hid q1
          clear q0 q1 e0 e1 e3 e4 e6 e7
          refine hK _ _ (fun _ => ⟨m0, m3, m6, m1, m4, m7⟩) ?_
          clear hK K
          try simp only [Act.put, List.setIfInBounds_toArray, List.set_cons_zero, List.set_cons_succ]
          have sz5 : (w4.setCell ⟨w.heap.size, 0, none⟩ (.pointer (some ⟨w1.heap.size + 1, 0, none⟩))).heap.size = w4.heap.size := szS _ _ _
          have hE5 : Hid (Ext w (w4.setCell ⟨w.heap.size, 0, none⟩ (.pointer (some ⟨w1.heap.size + 1, 0, none⟩)))) := Lib.hid (HC4.out.ext.setCell (Nat.le_refl _) _)
          have hlow5 : ∀ k, k ≠ w.heap.size → (w4.setCell ⟨w.heap.size, 0, none⟩ (.pointer (some ⟨w1.heap.size + 1, 0, none⟩))).heap[k]? = w4.heap[k]? := fun k hk => by rw [heapS, if_neg hk]
          generalize w4.setCell ⟨w.heap.size, 0, none⟩ (.pointer (some ⟨w1.heap.size + 1, 0, none⟩)) = w5 at *
          refine wpPlan_act rfl (by rfl) (fun K hK => ?_)
          go_simp
          refine hK _ _ (fun h => absurd rfl h) ⟨rfl, ?_⟩
          clear hK K
          try simp only [Act.put, List.setIfInBounds_toArray, List.set_cons_zero, List.set_cons_succ]
          go_wp2_with fail
          have q0 : ((w5.setCell ⟨w.heap.size + 1, 0, none⟩ (.int .i64 0)).setCell ⟨w.heap.size + 1, 1, none⟩ (.int .i64 0)).drew.heap[w.heap.size]? = some (.cells #[.pointer (some ⟨w1.heap.size + 1, 0, none⟩)] 47 (0, 0)) := by
            rw [heapD, heapS, if_neg (by omega), heapS, if_neg (by omega), Q0.out]
          have q1 : ((w5.setCell ⟨w.heap.size + 1, 0, none⟩ (.int .i64 0)).setCell ⟨w.heap.size + 1, 1, none⟩ (.int .i64 0)).drew.heap[w.heap.size + 1]? = some (.cells #[.int .i64 0, .int .i64 0] 92 (0, 0)) := by
            rw [heapD, heapS, if_pos rfl, heapS, if_pos rfl, Q1.out]; rfl
          have hE9 : Ext w ((w5.setCell ⟨w.heap.size + 1, 0, none⟩ (.int .i64 0)).setCell ⟨w.heap.size + 1, 1, none⟩ (.int .i64 0)).drew := ((hE5.out.setCell (by simp only []; omega) _).setCell (by simp only []; omega) _).drew
          have hlow9 : ∀ k, k ≠ w.heap.size → k ≠ w.heap.size + 1 → ((w5.setCell ⟨w.heap.size + 1, 0, none⟩ (.int .i64 0)).setCell ⟨w.heap.size + 1, 1, none⟩ (.int .i64 0)).drew.heap[k]? = w4.heap[k]? := fun k h1 h2 => by
            rw [heapD, heapS, if_neg h2, heapS, if_neg h2, hlow5 k h1]
          have sz9 : ((w5.setCell ⟨w.heap.size + 1, 0, none⟩ (.int .i64 0)).setCell ⟨w.heap.size + 1, 1, none⟩ (.int .i64 0)).drew.heap.size = w4.heap.size := by rw [szD, szS, szS, sz5]
          refine door_ok (P := w.heap.size) (Q := w.heap.size + 1) rfl rfl q0 q1 ?_
          show ReadPost w RR _ _
          rw [Hsp2.out, HR3.out]
          refine ⟨_, rfl, hE9, w1.heap.size + 1, vd, vb, rfl, by omega, ?_, ?_, ?_⟩
          · rw [hlow9 _ (by omega) (by omega)]; exact p4
          · refine own_keep HW.out (fun k hk => ?_) (by omega)
            have h1 := own_block HW.out hk
            rw [hlow9 _ (by omega) (by omega), hb.block _ h1.2]
          · exact AstAt.wide ((HA.out.keep (w' := ((w5.setCell ⟨w.heap.size + 1, 0, none⟩ (.int .i64 0)).setCell ⟨w.heap.size + 1, 1, none⟩ (.int .i64 0)).drew) (by omega) (fun k h1 h2 => by rw [hlow9 _ (by omega) (by omega), hb.block _ h2])).done) (by omega) (Nat.le_refl _)
        · have e4 : ((kind : Int) == 4) = false := by rw [beq_eq_false_iff_ne]; omega
          have e4' : ((kind : Int) != 4) = true := by rw [bne_iff_ne]; omega
          go_wp2_with fail
          refine hq.mono ?_
          rintro e w4 ⟨rfl, hb⟩
          have x4 := hb.size
          go_wp2_with fail
          have hc4 := HC.out.keep hb
          have p4 := (hb.block _ hszw).trans HP.out
          have e0 := cell_of_heap (o := 0) hc4.p
          have e1 := cell_of_heap (o := 1) p4
          simp only [List.getElem?_toArray, List.getElem?_cons_zero, List.getElem?_cons_succ] at e0 e1
          have hst := (all_reads toks (need toks.length a .stmt)).stmt w4.drew w1.heap.size lb cap a N hc4.rd.drew ((HGL.out.ext hc4.ext).ext (Ext.refl _).drew) (by omega) (Nat.le_refl _)
          simp only [fnOf, argsOf] at hst
          have HC4 := Lib.hid hc4
          have HP4 := Lib.hid p4
          have hw4 := HC4.out.ext.size
          replace HRR := HRR.out
          rw [if_neg h4] at HRR
          replace HRR := Lib.hid HRR
          clear hc4 p4 hq
          cases hx : pr toks (need toks.length a .stmt) .stmt a with
          | error ln =>
            have HR3 : Hid (R2 = .error ln) := by
              show _ = _
              rw [← HRR.out, hx]
            rw [hx] at hst
            have HX := Lib.hid hst
            clear hst hx
            refine wp_region_plan2 (fun w' => w'.cell? ⟨w.heap.size, 0, none⟩ = some (.pointer (some ⟨w1.heap.size + 1, 0, none⟩)) ∧ w'.cell? ⟨w1.heap.size + 1, 1, none⟩ = some vb)
              [(0, true), (1, true), (2, true), (3, true), (4, true), (5, true), (6, false)] false (by kernel_rfl) (by kernel_rfl) (fun i o hm ho c a v w h => door_put (plan_dsts (by kernel_rfl) i o hm ho) h) ⟨e0, e1⟩ ?_
            iterate 6 (refine ⟨_, ?_, rfl, Or.inl ⟨by rfl, ?_⟩, ?_⟩; rotate_left; (· intro w' hSw; (try dsimp only at hSw); go_simp; (try with_reducible rfl)); simp only [Act.put, List.setIfInBounds_toArray])
            refine wpPlan_act rfl (by rfl) (fun K hK => ?_)
            go_simp
            refine HX.out.mono ?_
            rintro e' w6 ⟨rfl, hk6⟩
            have x6 := hk6.size
            simp only [szD] at x6
            refine door_panic (P := w.heap.size) (Q := w.heap.size + 1) (by omega) rfl rfl ((hk6.block _ (by rw [szD]; omega) (by omega)).trans HC4.out.p) ((hk6.block _ (by rw [szD]; omega) (by omega)).trans HC4.out.f) ?_
            intro w7 hk7 h71 h72 h73 h74
            show ReadPost w RR _ _
            rw [Hsp2.out, HR3.out]
            have hE3 := HC4.out.ext
            exact ⟨rfl, h72.trans (hk6.os.trans hE3.os), h73.trans (hk6.tape.trans hE3.tape), h74.trans (hk6.output.trans hE3.output), by omega, fun k hk => by
              rw [hk7 k (by omega) (by omega) (by omega), hk6.block k (by rw [szD]; omega) (by omega), heapD, hE3.block k hk]⟩
          | ok r =>
            obtain ⟨x, b⟩ := r
            have HR3 : Hid (prBody toks g b (acc ++ [x]) = R2) := by
              show _ = _
              rw [← HRR.out, hx]
            have hxx := pr_isStm toks _ _ _ _ _ hx
            have hxl := pr_least toks _ _ _ _ _ hx
            simp only [What.least] at hxl
            rw [hx] at hst
            have HX := Lib.hid hst
            clear hst hx
            obtain ⟨vals, hrow, hvl, hve⟩ := HA.out.keep (w' := w4.drew) (by rw [szD]; omega) (fun b h1 h2 => hb.block b h2)
            have HROW := Lib.hid hrow
            have HVE := Lib.hid hve
            clear hrow hve
            refine wp_region_plan2 (fun w' => w'.cell? ⟨w.heap.size, 0, none⟩ = some (.pointer (some ⟨w1.heap.size + 1, 0, none⟩)) ∧ w'.cell? ⟨w1.heap.size + 1, 1, none⟩ = some vb)
              [(0, true), (1, true), (2, true), (3, true), (4, true), (5, true), (6, false), (7, false), (8, false), (9, true), (10, true), (11, false)] true (by kernel_rfl) (by kernel_rfl) (fun i o hm ho c a v w h => door_put (plan_dsts (by kernel_rfl) i o hm ho) h) ⟨e0, e1⟩ ?_
            iterate 6 (refine ⟨_, ?_, rfl, Or.inl ⟨by rfl, ?_⟩, ?_⟩; rotate_left; (· intro w' hSw; (try dsimp only at hSw); go_simp; (try with_reducible rfl)); simp only [Act.put, List.setIfInBounds_toArray])
            refine wpPlan_act rfl (by rfl) (fun K hK => ?_)
            go_simp
            refine HX.out.mono ?_
            rintro e' w6 ⟨v6, rfl, hk6, hr6, ha6⟩
            obtain ⟨b6, rfl, b61, b62⟩ := ha6.ptr_stm hxx
            have x6 := hk6.size
            simp only [szD] at x6 b61 ha6
            have d0 := (hk6.cell _ _ (by rw [szD]; omega) (by omega)).trans e0
            have d1 := (hk6.cell _ _ (by rw [szD]; omega) (by omega)).trans e1
            refine hK _ _ (fun _ => ⟨d0, d1⟩) ?_
            clear hK K
            try simp only [Act.put, List.setIfInBounds_toArray, List.set_cons_zero, List.set_cons_succ]
            refine wpPlan_act rfl (by rfl) (fun K hK => ?_)
            go_simp
            have HBX := (Ext.refl w6).alloc (.cells #[.pointer (some ⟨b6, 0, none⟩)] 119)
            refine hK _ _ (fun _ => ⟨(HBX.cell _ _ (by omega)).trans d0, (HBX.cell _ _ (by omega)).trans d1⟩) ?_
            clear hK K
            try simp only [Act.put, List.setIfInBounds_toArray, List.set_cons_zero, List.set_cons_succ]
            refine wpPlan_act rfl (by rfl) (fun K hK => ?_)
            obtain ⟨i0, hi0, hz0, hz1, hz2⟩ := info_parts info119
            refine wp_own_append (.tmp 33) (.tmp 36) 65 rfl B 119 i0 (.pointer none) 1 8 Tryz.underlying65 hi0 hz0 hz1 hz2 rfl (by decide) vb acc.length vals rfl
              (own_keep HROW.out (fun g hg => by
                have := own_block HROW.out hg
                rw [HBX.block _ (by rw [szD] at this; omega), hk6.block g (by omega) (by omega)]) (Nat.le_refl _))
              ⟨w6.heap.size, 0, none⟩ 1 1 [.pointer (some ⟨b6, 0, none⟩)] rfl rfl ?_ ?_ (by simp only [maxLen]; omega) (by omega) (by rw [szA]; omega) ?_
            · intro j u hu
              rcases j with _ | j
              · simp only [List.getElem?_cons_zero, Option.some.injEq] at hu
                subst hu
                simp [Addr.add, go_sem]
              · simp at hu
            · intro u hu
              simp only [List.mem_singleton] at hu
              subst hu
              rfl
            intro v' w7 hrow7 hg7 hb7
            have x7 := hg7.size
            simp only [szA] at x7 hb7
            have hown3 := fun q hq => own_block HROW.out (g := q) hq
            have hlow : ∀ k, k < w6.heap.size → vb.ownBlock ≠ some k → w7.heap[k]? = w6.heap[k]? := fun k hk hne => by
              rw [hg7.block _ (by rw [szA]; omega) (fun e => hne e.symm), HBX.block _ hk]
            have hnb : ∀ k, k < B → vb.ownBlock ≠ some k := fun k hk e => by have := (hown3 _ e).1; omega
            have hp7 : w7.heap[w1.heap.size + 1]? = some (.cells #[vd, vb] 67 (0, 0)) := by
              rw [hlow _ (by omega) (hnb _ (by omega)), hk6.block _ (by rw [szD]; omega) (by omega), heapD, HP4.out]
            have f0 : w7.cell? ⟨w.heap.size, 0, none⟩ = some (.pointer (some ⟨w1.heap.size + 1, 0, none⟩)) := (cell_same (hlow _ (by omega) (hnb _ (by omega)))).trans d0
            obtain ⟨f1, f2, f3⟩ := cells_of_heap hp7
            have f1 := f1 1
            have f2 := f2 1
            simp only [List.getElem?_toArray, List.getElem?_cons_zero, List.getElem?_cons_succ] at f1
            have HG7 := Lib.hid hg7
            have HP7 := Lib.hid hp7
            have HACC := Lib.hid (AccAt.snoc HROW.out hvl HVE.out hk6 (by omega) (by rw [szD]; omega) ha6 _ hrow7 hg7 hb7)
            obtain ⟨q, cap', rfl, hq1, hq2⟩ := own_slice hrow7
            refine hK _ _ (fun _ => ⟨f0, f1⟩) ?_
            clear hK K hrow7 hg7 hb7 hp7
            try simp only [Act.put, List.setIfInBounds_toArray]
            iterate 2 (refine ⟨_, ?_, rfl, Or.inl ⟨by rfl, ?_⟩, ?_⟩; rotate_left; (· intro w' hSw; (try dsimp only at hSw); go_simp; (try with_reducible rfl)); simp only [Act.put])
            refine wpPlan_act rfl (by rfl) (fun K hK => ?_)
            go_simp
            refine hK _ _ (fun h => absurd rfl h) ⟨rfl, ?_⟩
            clear hK K
            try simp only [Act.put, List.setIfInBounds_toArray, List.set_cons_zero, List.set_cons_succ]
            go_wp2_with fail
            have srb6 := hr6.sr
            have slb6 := hr6.sl
            have HR7 : RdAt w7 w1.heap.size lb cap toks b := hr6.same (by omega) (hlow _ (by omega) (hnb _ (by omega))) (hlow _ (by omega) (hnb _ (by omega)))
            refine ⟨⟨g, b, acc ++ [x], .slice (some ⟨q, 0, none⟩) (acc.length + 1) cap', HR3.out, by omega, by rw [List.length_append]; simp only [List.length_cons, List.length_nil]; omega, ?_, ?_, ?_, hvd, by rw [szS]; omega, ?_⟩, ?_⟩
            · refine HC4.out.move (HR7.setCell (by simp only []; omega) (by simp only []; omega) _) (by rw [szS]; omega) (HG7.out.os.trans hk6.os) (HG7.out.tape.trans hk6.tape) (HG7.out.output.trans hk6.output) (fun k hk => ?_)
              rw [heapS, if_neg (by omega), hlow _ (by omega) (hnb _ (by omega)), hk6.block _ (by rw [szD]; omega) (by omega), heapD]
            · rw [heapS, if_pos rfl, HP7.out]; rfl
            · refine own_keep HW.out (fun k hk => ?_) (Nat.le_refl _)
              have h1 := own_block HW.out hk
              have h2 := hvd _ hk
              rw [heapS, if_neg (by omega), hlow _ (by omega) (hnb _ h2), hk6.block _ (by rw [szD]; omega) (by omega), heapD, hb.block _ h1.2]
            · exact HACC.out.keep (by rw [szS]; omega) (fun b h1 h2 => by rw [heapS, if_neg (by omega)])
            · rw [rdLeft_eq (HR7.setCell (by simp only []; omega) (by simp only []; omega) _), rdLeft_eq HC.out.rd]
              omega
    | true =>
      rw [hi] at hq
      have HRR := Lib.hid hR
      clear hR
      go_wp2_with fail
      refine hq.mono ?_
      rintro e w3 ⟨rfl, hb⟩
      have x3 := hb.size
      go_wp2_with fail
      have hc3 := HC.out.keep hb
      have hst := declaration_reads w3.drew w1.heap.size lb cap a hc3.rd.drew
      have HC3 := Lib.hid hc3
      have p3 := (hb.block _ hszw).trans HP.out
      have e0 := cell_of_heap (o := 0) hc3.p
      have e1 := cell_of_heap (o := 0) p3
      simp only [List.getElem?_toArray, List.getElem?_cons_zero] at e0 e1
      have HP3 := Lib.hid p3
      clear hc3 p3
      cases hx : prDecl toks a with
      | error ln =>
        have HR2 : Hid (R1 = .error ln) := by
          show _ = _
          rw [← HRR.out]; simp only [prDecls]; rw [hi, if_pos rfl, hx]
        rw [hx] at hst
        have HX := Lib.hid hst
        clear hst hx
        refine wp_region_plan2 (fun w' => w'.cell? ⟨w.heap.size, 0, none⟩ = some (.pointer (some ⟨w1.heap.size + 1, 0, none⟩)) ∧ w'.cell? ⟨w1.heap.size + 1, 0, none⟩ = some vd)
          [(0, true), (1, true), (2, true), (3, true), (4, true), (5, true), (6, false)] false (by kernel_rfl) (by kernel_rfl) (fun i o hm ho c a v w h => door_put (plan_dsts (by kernel_rfl) i o hm ho) h) ⟨e0, e1⟩ ?_
        iterate 6 (refine ⟨_, ?_, rfl, Or.inl ⟨by rfl, ?_⟩, ?_⟩; rotate_left; (· intro w' hSw; (try dsimp only at hSw); go_simp; (try with_reducible rfl)); simp only [Act.put, List.setIfInBounds_toArray])
        refine wpPlan_act rfl (by rfl) (fun K hK => ?_)
        go_simp
        refine HX.out.mono ?_
        rintro e' w6 ⟨rfl, hk6⟩
        have x6 := hk6.size
        simp only [szD] at x6
        have y0 := HC3.out.ext.size
        refine door_panic (P := w.heap.size) (Q := w.heap.size + 1) (by omega) rfl rfl ((hk6.block _ (by rw [szD]; omega) (by omega)).trans HC3.out.p) ((hk6.block _ (by rw [szD]; omega) (by omega)).trans HC3.out.f) ?_
        intro w7 hk7 h71 h72 h73 h74
        show ReadPost w RR _ _
        rw [Hsp.out, HR2.out]
        have hE3 := HC3.out.ext
        exact ⟨rfl, h72.trans (hk6.os.trans hE3.os), h73.trans (hk6.tape.trans hE3.tape), h74.trans (hk6.output.trans hE3.output), by omega, fun k hk => by
          rw [hk7 k (by omega) (by omega) (by omega), hk6.block k (by rw [szD]; omega) (by omega), heapD, hE3.block k hk]⟩
      | ok r =>
        obtain ⟨d, b⟩ := r
        have HR2 : Hid (prDecls toks g b (acc ++ [d]) = R1) := by
          show _ = _
          rw [← HRR.out]; simp only [prDecls]; rw [hi, if_pos rfl, hx]
        have hxl := prDecl_least hx
        rw [hx] at hst
        have HX := Lib.hid hst
        clear hst hx
        refine wp_region_plan2 (fun w' => w'.cell? ⟨w.heap.size, 0, none⟩ = some (.pointer (some ⟨w1.heap.size + 1, 0, none⟩)) ∧ w'.cell? ⟨w1.heap.size + 1, 0, none⟩ = some vd)
          [(0, true), (1, true), (2, true), (3, true), (4, true), (5, true), (6, false), (7, false), (8, false), (9, true), (10, true), (11, false)] true (by kernel_rfl) (by kernel_rfl) (fun i o hm ho c a v w h => door_put (plan_dsts (by kernel_rfl) i o hm ho) h) ⟨e0, e1⟩ ?_
        iterate 6 (refine ⟨_, ?_, rfl, Or.inl ⟨by rfl, ?_⟩, ?_⟩; rotate_left; (· intro w' hSw; (try dsimp only at hSw); go_simp; (try with_reducible rfl)); simp only [Act.put, List.setIfInBounds_toArray])
        refine wpPlan_act rfl (by rfl) (fun K hK => ?_)
        go_simp
        refine HX.out.mono ?_
        rintro e' w6 ⟨rfl, hk6, hr6⟩
        unfold declV
        have x6 := hk6.size
        simp only [szD] at x6
        have d0 := (hk6.cell _ _ (by rw [szD]; omega) (by omega)).trans e0
        have d1 := (hk6.cell _ _ (by rw [szD]; omega) (by omega)).trans e1
        refine hK _ _ (fun _ => ⟨d0, d1⟩) ?_
        clear hK K
        try simp only [Act.put, List.setIfInBounds_toArray, List.set_cons_zero, List.set_cons_succ]
        refine wpPlan_act rfl (by rfl) (fun K hK => ?_)
        go_simp
        have HBX := (Ext.refl w6).alloc (.cells #[.int .i64 d.1.kind, .string d.1.text, .int .i64 d.1.line, .int .u32 d.1.num, .int .u32 d.2] 71)
        have y0 := HC3.out.ext.size
        refine hK _ _ (fun _ => ⟨(HBX.cell _ _ (by omega)).trans d0, (HBX.cell _ _ (by omega)).trans d1⟩) ?_
        clear hK K
        try simp only [Act.put, List.setIfInBounds_toArray, List.set_cons_zero, List.set_cons_succ]
        refine wpPlan_act rfl (by rfl) (fun K hK => ?_)
        obtain ⟨i0, hi0, hz0, hz1, hz2⟩ := info_parts info71
        have hown3 := fun q hq => own_block HW.out (g := q) hq
        refine wp_own_append (.tmp 18) (.tmp 21) 64 rfl (w1.heap.size + 2) 71 i0 _ 5 48 Tryz.underlying64 hi0 hz0 hz1 hz2 rfl (by decide) vd acc.length (acc.flatMap declCells) rfl
          (own_keep HW.out (fun g hg => by
            have := own_block HW.out hg
            rw [HBX.block _ (by omega), hk6.block g (by rw [szD]; omega) (by omega), heapD, hb.block _ (by omega)]) (Nat.le_refl _))
          ⟨w6.heap.size, 0, none⟩ 1 1 (declCells d) rfl rfl ?_ ?_ (by simp only [maxLen]; omega) (by omega) (by rw [szA]; omega) ?_
        · intro j u hu
          rw [add0, cell_of_heap (c := #[.int .i64 d.1.kind, .string d.1.text, .int .i64 d.1.line, .int .u32 d.1.num, .int .u32 d.2]) (T := 71) (f := (0, 0)) (by rw [heapA, if_pos rfl])]
          simpa [declCells] using hu
        · intro u hu
          simp only [declCells, List.mem_cons, List.not_mem_nil, or_false] at hu
          rcases hu with rfl | rfl | rfl | rfl | rfl <;> rfl
        intro v' w7 hrow7 hg7 hb7
        have x7 := hg7.size
        simp only [szA] at x7 hb7
        have hlow : ∀ k, k < w1.heap.size + 2 → w7.heap[k]? = w6.heap[k]? := fun k hk => by
          rw [hg7.block _ (by rw [szA]; omega) (fun e => by have := (hown3 _ e.symm).1; omega), HBX.block _ (by omega)]
        have hp7 : w7.heap[w1.heap.size + 1]? = some (.cells #[vd, .slice none 0 0] 67 (0, 0)) := by
          rw [hlow _ (by omega), hk6.block _ (by rw [szD]; omega) (by omega), heapD, HP3.out]
        have f0 : w7.cell? ⟨w.heap.size, 0, none⟩ = some (.pointer (some ⟨w1.heap.size + 1, 0, none⟩)) := (cell_same (hlow _ (by omega))).trans d0
        obtain ⟨f1, f2, f3⟩ := cells_of_heap hp7
        have f1 := f1 0
        have f2 := f2 0
        simp only [List.getElem?_toArray, List.getElem?_cons_zero] at f1
        refine hK _ _ (fun _ => ⟨f0, f1⟩) ?_
        have HROW7 := Lib.hid hrow7
        have HG7 := Lib.hid hg7
        have HP7 := Lib.hid hp7
        obtain ⟨q, cap', rfl, hq1, hq2⟩ := own_slice hrow7
        clear hK K hrow7 hg7 hb7 hp7
        try simp only [Act.put, List.setIfInBounds_toArray]
        iterate 2 (refine ⟨_, ?_, rfl, Or.inl ⟨by rfl, ?_⟩, ?_⟩; rotate_left; (· intro w' hSw; (try dsimp only at hSw); go_simp; (try with_reducible rfl)); simp only [Act.put])
        refine wpPlan_act rfl (by rfl) (fun K hK => ?_)
        go_simp
        refine hK _ _ (fun h => absurd rfl h) ⟨rfl, ?_⟩
        clear hK K
        try simp only [Act.put, List.setIfInBounds_toArray, List.set_cons_zero, List.set_cons_succ]
        go_wp2_with fail
        have srb6 := hr6.sr
        have slb6 := hr6.sl
        have HR7 : RdAt w7 w1.heap.size lb cap toks b := hr6.same (by omega) (hlow _ (by omega)) (hlow _ (by omega))
        refine ⟨⟨g, b, acc ++ [d], .slice (some ⟨q, 0, none⟩) (acc.length + 1) cap', HR2.out, by omega, by rw [List.length_append]; simp only [List.length_cons, List.length_nil]; omega, ?_, ?_, ?_⟩, ?_⟩
        · refine HC3.out.move (HR7.setCell (by simp only []; omega) (by simp only []; omega) _) (by rw [szS]; omega) (HG7.out.os.trans hk6.os) (HG7.out.tape.trans hk6.tape) (HG7.out.output.trans hk6.output) (fun k hk => ?_)
          rw [heapS, if_neg (by omega), hlow _ (by omega), hk6.block _ (by rw [szD]; omega) (by omega), heapD]
        · rw [heapS, if_pos rfl, HP7.out]; rfl
        · have h := own_keep (w' := w7.setCell ⟨w1.heap.size + 1, 0, none⟩ (.slice (some ⟨q, 0, none⟩) (acc.length + 1) cap')) HROW7.out (fun g hg => by
            have := (own_block HROW7.out hg).1
            rw [heapS, if_neg (by omega)]) (Nat.le_refl _)
          simpa [List.length_append, List.flatMap_append] using h
        · rw [rdLeft_eq (HR7.setCell (by simp only []; omega) (by simp only []; omega) _), rdLeft_eq HC.out.rd]
          omega
end Go.Proofs.YtgjgaeloehfhiaaGreatDoor
