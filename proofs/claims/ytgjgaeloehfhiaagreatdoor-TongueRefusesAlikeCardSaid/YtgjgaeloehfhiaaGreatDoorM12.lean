/- Where a reading ends; that a fault has a line. -/
import Derived.Test.YtgjgaeloehfhiaaGreatDoorM03
import Derived.Test.YtgjgaeloehfhiaaGreatDoorM02
section
namespace Go.Proofs.YtgjgaeloehfhiaaGreatDoor
open Go.RowKit

/-- What is known of tokens: lines are counted from 1; the last is an end. -/
structure Ends (toks : List Tok) : Prop where
  line : ∀ i, i < toks.length → 1 ≤ (toks.getD i default).line
  next : ∀ i, i < toks.length → (toks.getD i default).kind ≠ 4 → (toks.getD i default).kind ≠ 5 → i + 1 < toks.length

theorem Ends.isB {toks : List Tok} (h : Ends toks) {i : Nat} {s : ByteArray} (hi : i < toks.length) (hb : isB (toks.getD i default) s = true) : i + 1 < toks.length := h.next i hi (isB_kind hb).1 (isB_kind hb).2
theorem simple_kind {t : Tok} {x : Nat × Bool} (h : simpleOf t = some x) : t.kind ≠ 4 ∧ t.kind ≠ 5 := by
  simp only [simpleOf, simpleT, simpleIn] at h
  repeat' split at h
  all_goals first
    | (rename_i hb; exact isB_kind hb)
    | (rename_i hb _; exact isB_kind hb)
    | (simp at h; done)
    | skip
  all_goals cases h
theorem tightOf_kind {t : Tok} (h : tightOf t ≠ 0) : t.kind ≠ 4 ∧ t.kind ≠ 5 := by
  unfold tightOf at h
  split at h
  · omega
  · exact absurd rfl h

/-- What is claimed of a part. -/
def What.ends (toks : List Tok) (f : Nat) (wh : What) : Prop := ∀ p, p < toks.length → (wh = .assign → (toks.getD p default).kind = 2) → (∀ a b, pr toks f wh p = .ok (a, b) → b < toks.length) ∧ (∀ ln, pr toks f wh p = .error ln → need toks.length p wh ≤ f → 1 ≤ ln)

set_option maxHeartbeats 8000000 in
theorem pr_ends {toks : List Tok} (hT : Ends toks) (f : Nat) : ∀ wh : What, wh.ends toks f := by
  induction f with
  | zero =>
    intro wh p hp hka
    exact ⟨fun a b h => by simp [pr] at h, fun ln h hn => by cases wh <;> simp [need] at hn⟩
  | succ f ih =>
    intro wh p hp hka
    have hl := hT.line
    have hn := hT.next
    have hb := fun (i : Nat) (s : ByteArray) (hi : i < toks.length) (h : isB (toks.getD i default) s = true) => hT.isB hi h
    have oX := fun (x : Nat) (u : Ast) (v : Nat) (hx : x < toks.length) (hh : pr toks f (.expr 1) x = .ok (u, v)) => And.intro ((ih (.expr 1) x hx (fun h => by cases h)).1 u v hh) (pr_least toks f _ _ _ _ hh)
    have eX := fun (x ln : Nat) (hx : x < toks.length) (hh : pr toks f (.expr 1) x = .error ln) => (ih (.expr 1) x hx (fun h => by cases h)).2 ln hh
    have oB := fun (x : Nat) (u : Ast) (v : Nat) (hx : x < toks.length) (hh : pr toks f .block x = .ok (u, v)) => And.intro ((ih .block x hx (fun h => by cases h)).1 u v hh) (pr_least toks f _ _ _ _ hh)
    have eB := fun (x ln : Nat) (hx : x < toks.length) (hh : pr toks f .block x = .error ln) => (ih .block x hx (fun h => by cases h)).2 ln hh
    have oC := fun (x : Nat) (u : Ast) (v : Nat) (hx : x < toks.length) (hh : pr toks f .choice x = .ok (u, v)) => And.intro ((ih .choice x hx (fun h => by cases h)).1 u v hh) (pr_least toks f _ _ _ _ hh)
    have eC := fun (x ln : Nat) (hx : x < toks.length) (hh : pr toks f .choice x = .error ln) => (ih .choice x hx (fun h => by cases h)).2 ln hh
    have oO := fun (x : Nat) (u : Ast) (v : Nat) (hx : x < toks.length) (hh : pr toks f .operand x = .ok (u, v)) => And.intro ((ih .operand x hx (fun h => by cases h)).1 u v hh) (pr_least toks f _ _ _ _ hh)
    have eO := fun (x ln : Nat) (hx : x < toks.length) (hh : pr toks f .operand x = .error ln) => (ih .operand x hx (fun h => by cases h)).2 ln hh
    simp only [need, What.least] at oX eX oB eB oC eC oO eO
    cases wh with
    | operand =>
      simp only [pr, need]
      constructor
      · intro a b h; grind
      · intro ln h hf; grind
    | expr t =>
      have oR := fun (x : Nat) (e u : Ast) (v : Nat) (hx : x < toks.length) (hh : pr toks f (.rest t e) x = .ok (u, v)) => (ih (.rest t e) x hx (fun h => by cases h)).1 u v hh
      have eR := fun (x : Nat) (e : Ast) (ln : Nat) (hx : x < toks.length) (hh : pr toks f (.rest t e) x = .error ln) => (ih (.rest t e) x hx (fun h => by cases h)).2 ln hh
      simp only [need] at eR
      simp only [pr, need]
      constructor
      · intro a b h; grind
      · intro ln h hf; grind
    | rest t e =>
      have hk := tightOf_kind (t := toks.getD p default)
      have oR := fun (x : Nat) (e u : Ast) (v : Nat) (hx : x < toks.length) (hh : pr toks f (.rest t e) x = .ok (u, v)) => (ih (.rest t e) x hx (fun h => by cases h)).1 u v hh
      have eR := fun (x : Nat) (e : Ast) (ln : Nat) (hx : x < toks.length) (hh : pr toks f (.rest t e) x = .error ln) => (ih (.rest t e) x hx (fun h => by cases h)).2 ln hh
      have oY := fun (tt x : Nat) (u : Ast) (v : Nat) (hx : x < toks.length) (hh : pr toks f (.expr tt) x = .ok (u, v)) => And.intro ((ih (.expr tt) x hx (fun h => by cases h)).1 u v hh) (pr_least toks f _ _ _ _ hh)
      have eY := fun (tt x ln : Nat) (hx : x < toks.length) (hh : pr toks f (.expr tt) x = .error ln) => (ih (.expr tt) x hx (fun h => by cases h)).2 ln hh
      simp only [need, What.least] at eR oY eY
      simp only [pr, need]
      constructor
      · intro a b h; grind
      · intro ln h hf; grind
    | assign =>
      have hk2 := hka rfl
      have hp1 : p + 1 < toks.length := hn p hp (by omega) (by omega)
      simp only [pr, need]
      constructor
      · intro a b h; grind
      · intro ln h hf
        split at h
        · rename_i q1
          have h1 := hb _ _ hp1 q1
          split at h
          · rename_i n q2
            cases h
            exact eX _ _ h1 q2 (by omega)
          · rename_i i a q2
            obtain ⟨ha, ha2⟩ := oX _ _ _ h1 q2
            split at h
            · rename_i q3
              have h3 := hb _ _ ha q3
              split at h
              · rename_i q4
                have h4 := hb _ _ h3 q4
                split at h
                · rename_i n q5
                  cases h
                  exact eX _ _ h4 q5 (by omega)
                · rename_i v b q5
                  obtain ⟨hb5, _⟩ := oX _ _ _ h4 q5
                  split at h
                  · cases h
                  · cases h; exact hl _ hb5
              · cases h; exact hl _ h3
            · cases h; exact hl _ ha
        · split at h
          · rename_i q4
            have h4 := hb _ _ hp1 q4
            split at h
            · rename_i n q5
              cases h
              exact eX _ _ h4 q5 (by omega)
            · rename_i v b q5
              obtain ⟨hb5, _⟩ := oX _ _ _ h4 q5
              split at h
              · cases h
              · cases h; exact hl _ hb5
          · cases h; exact hl _ hp1
    | choice =>
      simp only [pr, need]
      constructor
      · intro a b h
        split at h
        · rename_i q1
          have h1 := hb _ _ hp q1
          split at h
          · cases h
          · rename_i e a1 q2
            obtain ⟨ha, ha2⟩ := oX _ _ _ h1 q2
            split at h
            · cases h
            · rename_i b1 c q3
              obtain ⟨hc, hc2⟩ := oB _ _ _ ha q3
              split at h
              · rename_i q4
                have h4 := hb _ _ hc q4
                split at h
                · split at h
                  · cases h
                  · rename_i s d q6
                    obtain ⟨hd, _⟩ := oC _ _ _ h4 q6
                    cases h; exact hd
                · split at h
                  · cases h
                  · rename_i s d q6
                    obtain ⟨hd, _⟩ := oB _ _ _ h4 q6
                    cases h; exact hd
              · cases h; exact hc
        · cases h
      · intro ln h hf
        split at h
        · rename_i q1
          have h1 := hb _ _ hp q1
          split at h
          · rename_i n q2
            cases h
            exact eX _ _ h1 q2 (by omega)
          · rename_i e a1 q2
            obtain ⟨ha, ha2⟩ := oX _ _ _ h1 q2
            split at h
            · rename_i n q3
              cases h
              exact eB _ _ ha q3 (by omega)
            · rename_i b1 c q3
              obtain ⟨hc, hc2⟩ := oB _ _ _ ha q3
              split at h
              · rename_i q4
                have h4 := hb _ _ hc q4
                split at h
                · split at h
                  · rename_i n q6
                    cases h
                    exact eC _ _ h4 q6 (by omega)
                  · cases h
                · split at h
                  · rename_i n q6
                    cases h
                    exact eB _ _ h4 q6 (by omega)
                  · cases h
              · cases h
        · cases h; exact hl _ hp
    | block =>
      have oS := fun (x : Nat) (u : Ast) (v : Nat) (hx : x < toks.length) (hh : pr toks f (.stmts []) x = .ok (u, v)) => (ih (.stmts []) x hx (fun h => by cases h)).1 u v hh
      have eS := fun (x ln : Nat) (hx : x < toks.length) (hh : pr toks f (.stmts []) x = .error ln) => (ih (.stmts []) x hx (fun h => by cases h)).2 ln hh
      simp only [need] at eS
      simp only [pr, need]
      constructor
      · intro a b h; grind
      · intro ln h hf; grind
    | stmts acc =>
      have oS := fun (acc : List Ast) (x : Nat) (u : Ast) (v : Nat) (hx : x < toks.length) (hh : pr toks f (.stmts acc) x = .ok (u, v)) => (ih (.stmts acc) x hx (fun h => by cases h)).1 u v hh
      have eS := fun (acc : List Ast) (x ln : Nat) (hx : x < toks.length) (hh : pr toks f (.stmts acc) x = .error ln) => (ih (.stmts acc) x hx (fun h => by cases h)).2 ln hh
      have oT := fun (x : Nat) (u : Ast) (v : Nat) (hx : x < toks.length) (hh : pr toks f .stmt x = .ok (u, v)) => And.intro ((ih .stmt x hx (fun h => by cases h)).1 u v hh) (pr_least toks f _ _ _ _ hh)
      have eT := fun (x ln : Nat) (hx : x < toks.length) (hh : pr toks f .stmt x = .error ln) => (ih .stmt x hx (fun h => by cases h)).2 ln hh
      simp only [need, What.least] at eS oT eT
      simp only [pr, need]
      constructor
      · intro a b h; grind
      · intro ln h hf; grind
    | stmt =>
      have oA := fun (x : Nat) (u : Ast) (v : Nat) (hx : x < toks.length) (hkx : (toks.getD x default).kind = 2) (hh : pr toks f .assign x = .ok (u, v)) => (ih .assign x hx (fun _ => hkx)).1 u v hh
      have eA := fun (x ln : Nat) (hx : x < toks.length) (hkx : (toks.getD x default).kind = 2) (hh : pr toks f .assign x = .error ln) => (ih .assign x hx (fun _ => hkx)).2 ln hh
      have hsk := fun x => @simple_kind (toks.getD p default) x
      simp only [need] at eA
      simp only [pr, need]
      constructor
      · intro a b h
        split at h
        · rename_i q1; exact oA _ _ _ hp q1 h
        split at h
        · exact (oC _ _ _ hp h).1
        split at h
        · split at h
          · cases h
          · rename_i b1 a1 q; cases h; exact (oB _ _ _ hp q).1
        split at h
        · rename_i q1
          have h1 := hb _ _ hp q1
          split at h
          · cases h
          · rename_i e a1 q2
            obtain ⟨ha, _⟩ := oX _ _ _ h1 q2
            split at h
            · cases h
            · rename_i b1 c q3; cases h; exact (oB _ _ _ ha q3).1
        split at h
        · cases h
        · rename_i k q1
          have h1 := hn _ hp (hsk _ q1).1 (hsk _ q1).2
          split at h
          · cases h
          · rename_i e a1 q2
            obtain ⟨ha, _⟩ := oX _ _ _ h1 q2
            split at h
            · rename_i q3; cases h; exact hb _ _ ha q3
            · cases h
        · rename_i k q1
          have h1 := hn _ hp (hsk _ q1).1 (hsk _ q1).2
          split at h
          · rename_i q3; cases h; exact hb _ _ h1 q3
          · cases h
      · intro ln h hf
        split at h
        · rename_i q1; exact eA _ _ hp q1 h (by omega)
        split at h
        · exact eC _ _ hp h (by omega)
        split at h
        · split at h
          · rename_i n q; cases h; exact eB _ _ hp q (by omega)
          · cases h
        split at h
        · rename_i q1
          have h1 := hb _ _ hp q1
          split at h
          · rename_i n q2; cases h; exact eX _ _ h1 q2 (by omega)
          · rename_i e a1 q2
            obtain ⟨ha, ha2⟩ := oX _ _ _ h1 q2
            split at h
            · rename_i n q3; cases h; exact eB _ _ ha q3 (by omega)
            · cases h
        split at h
        · cases h; exact hl _ hp
        · rename_i k q1
          have h1 := hn _ hp (hsk _ q1).1 (hsk _ q1).2
          split at h
          · rename_i n q2; cases h; exact eX _ _ h1 q2 (by omega)
          · rename_i e a1 q2
            obtain ⟨ha, _⟩ := oX _ _ _ h1 q2
            split at h
            · cases h
            · cases h; exact hl _ ha
        · rename_i k q1
          have h1 := hn _ hp (hsk _ q1).1 (hsk _ q1).2
          split at h
          · cases h
          · cases h; exact hl _ h1

theorem Ends.of {toks : List Tok} (hl : ∀ t ∈ toks, 1 ≤ t.line) (fin : (toks.getD (toks.length - 1) default).kind = 4 ∨ (toks.getD (toks.length - 1) default).kind = 5) : Ends toks := by
  refine ⟨fun i hi => ?_, fun i hi h4 h5 => ?_⟩
  · have : toks.getD i default = toks[i] := by simp [List.getD_eq_getElem?_getD, hi]
    rw [this]
    exact hl _ (List.getElem_mem hi)
  · by_cases e : i = toks.length - 1
    · rw [e] at h4 h5; omega
    · omega
end Go.Proofs.YtgjgaeloehfhiaaGreatDoor
end
section
/- The reader's operands. -/
namespace Go.Proofs.YtgjgaeloehfhiaaGreatDoor
open Go.RowKit

/-- A reading's post: it leaves all but the reader as it was. -/
def PPost (w : World) (rb lb cap : Nat) (toks : List Tok) : PRes → Ending → World → Prop
  | .ok (a, at'), e, w' => ∃ v, e = .returned v ∧ Kp rb w w' ∧ RdAt w' rb lb cap toks at' ∧ AstAt w' w.heap.size w'.heap.size a v
  | .error ln, e, w' => e = gaveUp ln ∧ Kp rb w w'

/-- The function of a part. -/
def fnOf : What → FuncId
  | .operand => 136 | .expr _ => 100 | .assign => 97 | .choice => 98 | .block => 99 | _ => 53

def argsOf (rb : Nat) : What → Array Value
  | .expr tight => #[.pointer (some ⟨rb, 0, none⟩), .int .i64 tight]
  | _ => #[.pointer (some ⟨rb, 0, none⟩)]

/-- With so much room a part is read as the plain function says. -/
def Reads (toks : List Tok) (f : Nat) (wh : What) : Prop := ∀ (w : World) (rb lb cap at_ N : Nat), RdAt w rb lb cap toks at_ → Gl N w → N ≤ rb → need toks.length at_ wh ≤ f →
  Calls Tryz.prog (fnOf wh) (argsOf rb wh) w (PPost w rb lb cap toks (pr toks f wh at_))

theorem AstAt.exp1 {w : World} {lo hi k ln : Nat} {t : Tok} {b : Nat} {vl vr : Value} {l r : Ast} (h1 : lo ≤ b) (h2 : b < hi)
    (hc : w.heap[b]? = some (.cells #[.int .i64 k, .int .i64 t.kind, .string t.text, .int .i64 t.line, .int .u32 t.num, .int .i64 ln, vl, vr] 197 (0, 0)))
    (hl : AstAt w lo hi l vl) (hr : AstAt w lo hi r vr) : AstAt w lo hi (.exp k t ln l r) (.pointer (some ⟨b, 0, none⟩)) := ⟨b, vl, vr, rfl, h1, h2, hc, hl, hr⟩

theorem AstAt.ptr_exp {w : World} {lo hi : Nat} {a : Ast} {v : Value} (h : AstAt w lo hi a v) (ha : a.isExp) : ∃ b, v = .pointer (some ⟨b, 0, none⟩) ∧ lo ≤ b ∧ b < hi := by
  cases a <;> simp only [Ast.isExp] at ha
  obtain ⟨b, vl, vr, hv, h1, h2, _⟩ := h
  exact ⟨b, hv, h1, h2⟩

set_option maxRecDepth 100000 in
set_option maxHeartbeats 1000000 in
theorem operand_number {toks : List Tok} {f : Nat} {rb lb cap at_ : Nat} (w : World) (h : RdAt w rb lb cap toks at_) (hk : (toks.getD at_ default).kind = 3) :
    Calls Tryz.prog 136 #[.pointer (some ⟨rb, 0, none⟩)] w (PPost w rb lb cap toks (pr toks (f + 1) .operand at_)) := by
  have hspec : pr toks (f + 1) .operand at_ = .ok (.exp 0 (toks.getD at_ default) (toks.getD at_ default).line .nil .nil, at_ + 1) := by simp only [pr]; rw [if_pos hk]
  rw [hspec]; clear hspec
  have hp := fun w' (hb : Ext w w') => peek_any w' (h.keep hb)
  have ht := fun w' (hb : Ext w w') => take_ok w' (h.keep hb) (by omega) (by omega)
  obtain ⟨c0, c1, f1, s1, b1, b2⟩ := h.cells
  have sl := h.sl
  have HH := Lib.hid h
  clear h
  generalize toks.getD at_ default = t at *
  obtain ⟨kind, text, line, num⟩ := t
  simp only at hk
  subst hk
  go_enter Tryz.func136, Tryz.ntmps136
  go_wp2_with fail
  refine (hp _ (Ext.refl _)).mono ?_
  rintro e w1 ⟨rfl, hb⟩
  have s2 := hb.size
  go_wp2_with fail
  refine (ht _ ((hb.alloc _).alloc _)).mono ?_
  rintro e w2 ⟨rfl, hk, hr⟩
  have s3 := hk.size
  simp only [szA] at s3
  have HE : Hid (w2.heap[w1.heap.size + 1]? = some (.cells #[.int .i64 0, .int .i64 3, .string text, .int .i64 line, .int .u32 num, .int .i64 line, .pointer none, .pointer none] 197 (0, 0))) := by
    show _ = _
    rw [hk.heap _ (by simp only [szA]; omega) (by omega), heapA, if_pos (by rw [szA])]
  obtain ⟨q1, q2, q3⟩ := cells_of_heap HE.out
  have HK := Lib.hid ((hb.alloc _).alloc _ |>.kp rb |>.trans hk)
  have HR := Lib.hid hr
  clear hk hr hb
  go_wp2_with fail
  go_ret
  refine ⟨_, rfl, ?_, ?_, ?_⟩
  · exact HK.out.setCell (.inr (by simp only []; omega)) _
  · exact HR.out.setCell (by simp only []; omega) (by simp only []; omega) _
  · exact AstAt.exp1 (by omega) (by rw [szS]; omega) (by rw [heapS, if_pos rfl, HE.out]; rfl) rfl rfl

set_option maxRecDepth 100000 in
set_option maxHeartbeats 1000000 in
theorem operand_name {toks : List Tok} {f : Nat} {rb lb cap at_ : Nat} (w : World) (h : RdAt w rb lb cap toks at_) (hk : (toks.getD at_ default).kind = 2) (hn : isB (toks.getD (at_ + 1) default) ⟨#[91]⟩ = false) :
    Calls Tryz.prog 136 #[.pointer (some ⟨rb, 0, none⟩)] w (PPost w rb lb cap toks (pr toks (f + 1) .operand at_)) := by
  have hspec : pr toks (f + 1) .operand at_ = .ok (.exp 2 (toks.getD at_ default) (toks.getD at_ default).line .nil .nil, at_ + 1) := by simp only [pr]; rw [if_neg (by omega), if_pos hk, hn]; rfl
  rw [hspec]; clear hspec
  have hp := fun w' (hb : Ext w w') => peek_any w' (h.keep hb)
  have ht := fun w' (hb : Ext w w') => take_ok w' (h.keep hb) (by omega) (by omega)
  obtain ⟨c0, c1, f1, s1, b1, b2⟩ := h.cells
  have sl := h.sl
  have HH := Lib.hid h
  clear h
  have HN := Lib.hid hn
  clear hn
  generalize toks.getD at_ default = t at *
  obtain ⟨kind, text, line, num⟩ := t
  simp only at hk
  subst hk
  go_enter Tryz.func136, Tryz.ntmps136
  go_wp2_with fail
  refine (hp _ (Ext.refl _)).mono ?_
  rintro e w1 ⟨rfl, hb⟩
  have s2 := hb.size
  go_wp2_with fail
  refine (ht _ ((hb.alloc _).alloc _)).mono ?_
  rintro e w2 ⟨rfl, hk, hr⟩
  have s3 := hk.size
  simp only [szA] at s3
  have HE : Hid (w2.heap[w1.heap.size + 1]? = some (.cells #[.int .i64 0, .int .i64 2, .string text, .int .i64 line, .int .u32 num, .int .i64 line, .pointer none, .pointer none] 197 (0, 0))) := by
    show _ = _
    rw [hk.heap _ (by simp only [szA]; omega) (by omega), heapA, if_pos (by rw [szA])]
  obtain ⟨q1, q2, q3⟩ := cells_of_heap HE.out
  have HK := Lib.hid ((hb.alloc _).alloc _ |>.kp rb |>.trans hk)
  have HR := Lib.hid hr
  clear hk hr hb
  go_wp2_with fail
  refine (may_no _ _ (HR.out.setCell (by simp only []; omega) (by simp only []; omega) _) HN.out).mono ?_
  rintro e w3 ⟨rfl, hb3⟩
  have s4 := hb3.size
  simp only [szS] at s4
  go_wp2_with fail
  go_ret
  refine ⟨_, rfl, ?_, ?_, ?_⟩
  · exact (HK.out.setCell (.inr (by simp only []; omega)) _).ext hb3
  · exact (HR.out.setCell (by simp only []; omega) (by simp only []; omega) _).keep hb3
  · exact AstAt.exp1 (by omega) (by omega) (by rw [hb3.block _ (by rw [szS]; omega), heapS, if_pos rfl, HE.out]; rfl) rfl rfl

set_option maxRecDepth 100000 in
set_option maxHeartbeats 1000000 in
theorem operand_idx_bad {toks : List Tok} {f : Nat} {rb lb cap at_ : Nat} (w : World) (h : RdAt w rb lb cap toks at_) (hk : (toks.getD at_ default).kind = 2) (hn : isB (toks.getD (at_ + 1) default) ⟨#[91]⟩ = true) (ih : Reads toks f (.expr 1)) {N : Nat} (hG : Gl N w) (hN : N ≤ rb) (hf : need toks.length at_ .operand ≤ f + 1) {ln : Nat} (hx : pr toks f (.expr 1) (at_ + 1 + 1) = .error ln) :
    Calls Tryz.prog 136 #[.pointer (some ⟨rb, 0, none⟩)] w (PPost w rb lb cap toks (pr toks (f + 1) .operand at_)) := by
  have hspec : pr toks (f + 1) .operand at_ = .error ln := by simp only [pr]; rw [if_neg (by omega), if_pos hk, if_pos hn, hx]
  rw [hspec]; clear hspec
  have hp := fun w' (hb : Ext w w') => peek_any w' (h.keep hb)
  have ht := fun w' (hb : Ext w w') => take_ok w' (h.keep hb) (by omega) (by omega)
  have hi := fun w' a => ih w' rb lb cap (at_ + 1 + 1) N a
  rw [hx] at hi
  clear hx
  obtain ⟨c0, c1, f1, s1, b1, b2⟩ := h.cells
  have sl := h.sl
  have HH := Lib.hid h
  clear h
  have HN := Lib.hid hn
  have HI := Lib.hid hi
  have HG := Lib.hid hG
  clear hn hi hG ih
  generalize toks.getD at_ default = t at *
  obtain ⟨kind, text, line, num⟩ := t
  simp only at hk
  subst hk
  go_enter Tryz.func136, Tryz.ntmps136
  go_wp2_with fail
  refine (hp _ (Ext.refl _)).mono ?_
  rintro e w1 ⟨rfl, hb⟩
  have s2 := hb.size
  go_wp2_with fail
  refine (ht _ ((hb.alloc _).alloc _)).mono ?_
  rintro e w2 ⟨rfl, hk, hr⟩
  have s3 := hk.size
  simp only [szA] at s3
  have HE : Hid (w2.heap[w1.heap.size + 1]? = some (.cells #[.int .i64 0, .int .i64 2, .string text, .int .i64 line, .int .u32 num, .int .i64 line, .pointer none, .pointer none] 197 (0, 0))) := by
    show _ = _
    rw [hk.heap _ (by simp only [szA]; omega) (by omega), heapA, if_pos (by rw [szA])]
  obtain ⟨q1, q2, q3⟩ := cells_of_heap HE.out
  have HK := Lib.hid ((hb.alloc _).alloc _ |>.kp rb |>.trans hk)
  have HR := Lib.hid hr
  clear hk hr hb
  go_wp2_with fail
  refine (may_yes _ _ (HR.out.setCell (by simp only []; omega) (by simp only []; omega) _) HN.out).mono ?_
  rintro e w3 ⟨rfl, hk3, hr3⟩
  have s4 := hk3.size
  simp only [szS] at s4
  have HE3 : Hid (w3.heap[w1.heap.size + 1]? = some (.cells #[.int .i64 2, .int .i64 2, .string text, .int .i64 line, .int .u32 num, .int .i64 line, .pointer none, .pointer none] 197 (0, 0))) := by
    show _ = _
    rw [hk3.heap _ (by rw [szS]; omega) (by omega), heapS, if_pos rfl, HE.out]; rfl
  have HK3 := Lib.hid ((HK.out.setCell (p := ⟨w1.heap.size + 1, 0, none⟩) (.inr (by simp only []; omega)) (.int .i64 2)).trans hk3)
  have HR3 := Lib.hid hr3
  obtain ⟨r1, r2, r3⟩ := cells_of_heap HE3.out
  clear q1 q2 hk3 hr3 HK HR HE
  go_wp2_with fail
  have HR4 := Lib.hid (HR3.out.setCell (p := ⟨w1.heap.size + 1, 0, none⟩) (by simp only []; omega) (by simp only []; omega) (.int .i64 3))
  have HK4 := Lib.hid (HK3.out.setCell (p := ⟨w1.heap.size + 1, 0, none⟩) (.inr (by simp only []; omega)) (.int .i64 3))
  refine (HI.out _ HR4.out (HG.out.kp hN HK4.out) hN (by simp only [need] at *; omega)).mono ?_
  rintro e w5 ⟨rfl, hk5⟩
  exact ⟨rfl, rfl, HK4.out.trans hk5⟩

set_option maxRecDepth 100000 in
set_option maxHeartbeats 1000000 in
theorem operand_idx_ok {toks : List Tok} {f : Nat} {rb lb cap at_ : Nat} (w : World) (h : RdAt w rb lb cap toks at_) (hk : (toks.getD at_ default).kind = 2) (hn : isB (toks.getD (at_ + 1) default) ⟨#[91]⟩ = true) (ih : Reads toks f (.expr 1)) {N : Nat} (hG : Gl N w) (hN : N ≤ rb) (hf : need toks.length at_ .operand ≤ f + 1) {x : Ast} {a : Nat} (hx : pr toks f (.expr 1) (at_ + 1 + 1) = .ok (x, a)) (hc : isB (toks.getD a default) ⟨#[93]⟩ = true) :
    Calls Tryz.prog 136 #[.pointer (some ⟨rb, 0, none⟩)] w (PPost w rb lb cap toks (pr toks (f + 1) .operand at_)) := by
  have hspec : pr toks (f + 1) .operand at_ = .ok (.exp 3 (toks.getD at_ default) (toks.getD at_ default).line x .nil, a + 1) := by simp only [pr]; rw [if_neg (by omega), if_pos hk, if_pos hn, hx]; dsimp only; rw [hc]; rfl
  rw [hspec]; clear hspec
  have hp := fun w' (hb : Ext w w') => peek_any w' (h.keep hb)
  have ht := fun w' (hb : Ext w w') => take_ok w' (h.keep hb) (by omega) (by omega)
  have hi := fun w' a => ih w' rb lb cap (at_ + 1 + 1) N a
  have hX := pr_isExp toks f _ _ _ _ hx
  rw [hx] at hi
  clear hx
  obtain ⟨c0, c1, f1, s1, b1, b2⟩ := h.cells
  have sl := h.sl
  have HH := Lib.hid h
  clear h
  have HN := Lib.hid hn
  have HI := Lib.hid hi
  have HG := Lib.hid hG
  have HC := Lib.hid hc
  clear hn hi hG ih hc
  generalize toks.getD at_ default = t at *
  obtain ⟨kind, text, line, num⟩ := t
  simp only at hk
  subst hk
  go_enter Tryz.func136, Tryz.ntmps136
  go_wp2_with fail
  refine (hp _ (Ext.refl _)).mono ?_
  rintro e w1 ⟨rfl, hb⟩
  have s2 := hb.size
  go_wp2_with fail
  refine (ht _ ((hb.alloc _).alloc _)).mono ?_
  rintro e w2 ⟨rfl, hk, hr⟩
  have s3 := hk.size
  simp only [szA] at s3
  have HE : Hid (w2.heap[w1.heap.size + 1]? = some (.cells #[.int .i64 0, .int .i64 2, .string text, .int .i64 line, .int .u32 num, .int .i64 line, .pointer none, .pointer none] 197 (0, 0))) := by
    show _ = _
    rw [hk.heap _ (by simp only [szA]; omega) (by omega), heapA, if_pos (by rw [szA])]
  obtain ⟨q1, q2, q3⟩ := cells_of_heap HE.out
  have HK := Lib.hid ((hb.alloc _).alloc _ |>.kp rb |>.trans hk)
  have HR := Lib.hid hr
  clear hk hr hb
  go_wp2_with fail
  refine (may_yes _ _ (HR.out.setCell (by simp only []; omega) (by simp only []; omega) _) HN.out).mono ?_
  rintro e w3 ⟨rfl, hk3, hr3⟩
  have s4 := hk3.size
  simp only [szS] at s4
  have HE3 : Hid (w3.heap[w1.heap.size + 1]? = some (.cells #[.int .i64 2, .int .i64 2, .string text, .int .i64 line, .int .u32 num, .int .i64 line, .pointer none, .pointer none] 197 (0, 0))) := by
    show _ = _
    rw [hk3.heap _ (by rw [szS]; omega) (by omega), heapS, if_pos rfl, HE.out]; rfl
  have HK3 := Lib.hid ((HK.out.setCell (p := ⟨w1.heap.size + 1, 0, none⟩) (.inr (by simp only []; omega)) (.int .i64 2)).trans hk3)
  have HR3 := Lib.hid hr3
  obtain ⟨r1, r2, r3⟩ := cells_of_heap HE3.out
  clear q1 q2 hk3 hr3 HK HR HE
  go_wp2_with fail
  have HR4 := Lib.hid (HR3.out.setCell (p := ⟨w1.heap.size + 1, 0, none⟩) (by simp only []; omega) (by simp only []; omega) (.int .i64 3))
  have HK4 := Lib.hid (HK3.out.setCell (p := ⟨w1.heap.size + 1, 0, none⟩) (.inr (by simp only []; omega)) (.int .i64 3))
  refine (HI.out _ HR4.out (HG.out.kp hN HK4.out) hN (by simp only [need] at *; omega)).mono ?_
  rintro e w5 ⟨v5, rfl, hk5, hr5, ha5⟩
  obtain ⟨b5, rfl, b51, b52⟩ := ha5.ptr_exp hX
  have s6 := hk5.size
  simp only [szS] at s6 b51 ha5
  have HE5 : Hid (w5.heap[w1.heap.size + 1]? = some (.cells #[.int .i64 3, .int .i64 2, .string text, .int .i64 line, .int .u32 num, .int .i64 line, .pointer none, .pointer none] 197 (0, 0))) := by
    show _ = _
    rw [hk5.heap _ (by rw [szS]; omega) (by omega), heapS, if_pos rfl, HE3.out]; rfl
  have HK5 := Lib.hid (HK4.out.trans hk5)
  have HR5 := Lib.hid hr5
  have HA5 := Lib.hid ha5
  obtain ⟨t1, t2, t3⟩ := cells_of_heap HE5.out
  clear r1 r2 hk5 hr5 ha5 HE3 HK3 HK4 HR3 HR4
  go_wp2_with fail
  have HR6 := Lib.hid (HR5.out.setCell (p := ⟨w1.heap.size + 1, 6, none⟩) (by simp only []; omega) (by simp only []; omega) (.pointer (some ⟨b5, 0, none⟩)))
  have HK6 := Lib.hid (HK5.out.setCell (p := ⟨w1.heap.size + 1, 6, none⟩) (.inr (by simp only []; omega)) (.pointer (some ⟨b5, 0, none⟩)))
  refine (want_ok _ _ HR6.out HC.out).mono ?_
  rintro e w7 ⟨rfl, hk7, hr7⟩
  have s8 := hk7.size
  simp only [szS] at s8
  go_wp2_with fail
  go_ret
  refine ⟨_, rfl, HK6.out.trans hk7, hr7, ?_⟩
  refine AstAt.exp1 (by omega) (by omega) (by rw [hk7.heap _ (by rw [szS]; omega) (by omega), heapS, if_pos rfl, HE5.out]; rfl) ?_ rfl
  exact HA5.out.keep (fun b h1 h2 => by rw [hk7.heap _ (by rw [szS]; omega) (by omega), heapS, if_neg (by omega)]) (by omega) (by omega)

set_option maxRecDepth 100000 in
set_option maxHeartbeats 1000000 in
theorem operand_idx_end {toks : List Tok} {f : Nat} {rb lb cap at_ : Nat} (w : World) (h : RdAt w rb lb cap toks at_) (hk : (toks.getD at_ default).kind = 2) (hn : isB (toks.getD (at_ + 1) default) ⟨#[91]⟩ = true) (ih : Reads toks f (.expr 1)) {N : Nat} (hG : Gl N w) (hN : N ≤ rb) (hf : need toks.length at_ .operand ≤ f + 1) {x : Ast} {a : Nat} (hx : pr toks f (.expr 1) (at_ + 1 + 1) = .ok (x, a)) (hc : isB (toks.getD a default) ⟨#[93]⟩ = false) :
    Calls Tryz.prog 136 #[.pointer (some ⟨rb, 0, none⟩)] w (PPost w rb lb cap toks (pr toks (f + 1) .operand at_)) := by
  have hspec : pr toks (f + 1) .operand at_ = .error (toks.getD a default).line := by simp only [pr]; rw [if_neg (by omega), if_pos hk, if_pos hn, hx]; dsimp only; rw [hc]; rfl
  rw [hspec]; clear hspec
  have hp := fun w' (hb : Ext w w') => peek_any w' (h.keep hb)
  have ht := fun w' (hb : Ext w w') => take_ok w' (h.keep hb) (by omega) (by omega)
  have hi := fun w' a => ih w' rb lb cap (at_ + 1 + 1) N a
  have hX := pr_isExp toks f _ _ _ _ hx
  rw [hx] at hi
  clear hx
  obtain ⟨c0, c1, f1, s1, b1, b2⟩ := h.cells
  have sl := h.sl
  have HH := Lib.hid h
  clear h
  have HN := Lib.hid hn
  have HI := Lib.hid hi
  have HG := Lib.hid hG
  have HC := Lib.hid hc
  clear hn hi hG ih hc
  generalize toks.getD at_ default = t at *
  obtain ⟨kind, text, line, num⟩ := t
  simp only at hk
  subst hk
  go_enter Tryz.func136, Tryz.ntmps136
  go_wp2_with fail
  refine (hp _ (Ext.refl _)).mono ?_
  rintro e w1 ⟨rfl, hb⟩
  have s2 := hb.size
  go_wp2_with fail
  refine (ht _ ((hb.alloc _).alloc _)).mono ?_
  rintro e w2 ⟨rfl, hk, hr⟩
  have s3 := hk.size
  simp only [szA] at s3
  have HE : Hid (w2.heap[w1.heap.size + 1]? = some (.cells #[.int .i64 0, .int .i64 2, .string text, .int .i64 line, .int .u32 num, .int .i64 line, .pointer none, .pointer none] 197 (0, 0))) := by
    show _ = _
    rw [hk.heap _ (by simp only [szA]; omega) (by omega), heapA, if_pos (by rw [szA])]
  obtain ⟨q1, q2, q3⟩ := cells_of_heap HE.out
  have HK := Lib.hid ((hb.alloc _).alloc _ |>.kp rb |>.trans hk)
  have HR := Lib.hid hr
  clear hk hr hb
  go_wp2_with fail
  refine (may_yes _ _ (HR.out.setCell (by simp only []; omega) (by simp only []; omega) _) HN.out).mono ?_
  rintro e w3 ⟨rfl, hk3, hr3⟩
  have s4 := hk3.size
  simp only [szS] at s4
  have HE3 : Hid (w3.heap[w1.heap.size + 1]? = some (.cells #[.int .i64 2, .int .i64 2, .string text, .int .i64 line, .int .u32 num, .int .i64 line, .pointer none, .pointer none] 197 (0, 0))) := by
    show _ = _
    rw [hk3.heap _ (by rw [szS]; omega) (by omega), heapS, if_pos rfl, HE.out]; rfl
  have HK3 := Lib.hid ((HK.out.setCell (p := ⟨w1.heap.size + 1, 0, none⟩) (.inr (by simp only []; omega)) (.int .i64 2)).trans hk3)
  have HR3 := Lib.hid hr3
  obtain ⟨r1, r2, r3⟩ := cells_of_heap HE3.out
  clear q1 q2 hk3 hr3 HK HR HE
  go_wp2_with fail
  have HR4 := Lib.hid (HR3.out.setCell (p := ⟨w1.heap.size + 1, 0, none⟩) (by simp only []; omega) (by simp only []; omega) (.int .i64 3))
  have HK4 := Lib.hid (HK3.out.setCell (p := ⟨w1.heap.size + 1, 0, none⟩) (.inr (by simp only []; omega)) (.int .i64 3))
  refine (HI.out _ HR4.out (HG.out.kp hN HK4.out) hN (by simp only [need] at *; omega)).mono ?_
  rintro e w5 ⟨v5, rfl, hk5, hr5, ha5⟩
  obtain ⟨b5, rfl, b51, b52⟩ := ha5.ptr_exp hX
  have s6 := hk5.size
  simp only [szS] at s6 b51 ha5
  have HE5 : Hid (w5.heap[w1.heap.size + 1]? = some (.cells #[.int .i64 3, .int .i64 2, .string text, .int .i64 line, .int .u32 num, .int .i64 line, .pointer none, .pointer none] 197 (0, 0))) := by
    show _ = _
    rw [hk5.heap _ (by rw [szS]; omega) (by omega), heapS, if_pos rfl, HE3.out]; rfl
  have HK5 := Lib.hid (HK4.out.trans hk5)
  have HR5 := Lib.hid hr5
  have HA5 := Lib.hid ha5
  obtain ⟨t1, t2, t3⟩ := cells_of_heap HE5.out
  clear r1 r2 hk5 hr5 ha5 HE3 HK3 HK4 HR3 HR4
  go_wp2_with fail
  have HR6 := Lib.hid (HR5.out.setCell (p := ⟨w1.heap.size + 1, 6, none⟩) (by simp only []; omega) (by simp only []; omega) (.pointer (some ⟨b5, 0, none⟩)))
  have HK6 := Lib.hid (HK5.out.setCell (p := ⟨w1.heap.size + 1, 6, none⟩) (.inr (by simp only []; omega)) (.pointer (some ⟨b5, 0, none⟩)))
  refine (want_bad _ _ HR6.out HC.out).mono ?_
  rintro e w7 ⟨rfl, hb7⟩
  exact ⟨rfl, rfl, HK6.out.ext hb7⟩

end Go.Proofs.YtgjgaeloehfhiaaGreatDoor
end
