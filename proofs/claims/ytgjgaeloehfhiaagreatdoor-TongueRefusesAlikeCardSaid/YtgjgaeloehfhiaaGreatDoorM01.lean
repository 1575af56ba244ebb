/- The plain notions of the proof: tokens, trees, and how they lie in memory; what a call leaves as it was. Conditions: none. -/
import Derived.Test.YtgjgaeloehfhiaaGreatDoorRows
import Derived.WalkKit
import Derived.WalkSpells
import Derived.WalkLawsBesides
import Derived.RegionTactic
import Derived.ChangeAlike
import Derived.BigQuiet
import Derived.Deep.QuietTactic
import Derived.Deep.RegionHeld2
import Derived.Deep.RegionHeld3
import Derived.StillTailTactics
import Derived.Lib.Hide
section
namespace Go.Proofs.YtgjgaeloehfhiaaGreatDoor
open Go.RowKit

/-- A piece of a source. -/
structure Tok where
  kind : Nat
  text : ByteArray
  line : Nat
  num : Nat
deriving Inhabited

abbrev Tok.val (t : Tok) : Value := .agg #[.int .i64 t.kind, .string t.text, .int .i64 t.line, .int .u32 t.num]

/-- Trees: expressions, statements, blocks, lists of statements. -/
inductive Ast where
  | nil
  | exp (kind : Nat) (t : Tok) (line : Nat) (l r : Ast)
  | stm (kind : Nat) (t : Tok) (e f body rest : Ast) (link : Bool)
  | blk (line : Nat) (list : Ast)
  | lnil
  | cons (hd tl : Ast)

def ofList : List Ast → Ast
  | [] => .lnil
  | a :: l => .cons a (ofList l)

/-- How a tree lies in the blocks lo .. hi - 1 of a world. -/
def AstAt (w : World) (lo hi : Nat) : Ast → Value → Prop
  | .nil, v => v = .pointer none
  | .exp k t ln l r, v => ∃ b vl vr, v = .pointer (some ⟨b, 0, none⟩) ∧ lo ≤ b ∧ b < hi ∧
      w.heap[b]? = some (.cells #[.int .i64 k, .int .i64 t.kind, .string t.text, .int .i64 t.line, .int .u32 t.num, .int .i64 ln, vl, vr] 197 (0, 0)) ∧
      AstAt w lo hi l vl ∧ AstAt w lo hi r vr
  | .stm k t e f body rest link, v => ∃ b ve vf vb vr, v = .pointer (some ⟨b, 0, none⟩) ∧ lo ≤ b ∧ b < hi ∧
      w.heap[b]? = some (.cells #[.int .i64 k, .int .i64 t.kind, .string t.text, .int .i64 t.line, .int .u32 t.num, ve, vf, vb, vr, .bool link] 150 (0, 0)) ∧
      AstAt w lo hi e ve ∧ AstAt w lo hi f vf ∧ AstAt w lo hi body vb ∧ AstAt w lo hi rest vr
  | .blk ln l, v => ∃ b vl, v = .pointer (some ⟨b, 0, none⟩) ∧ lo ≤ b ∧ b < hi ∧
      w.heap[b]? = some (.cells #[.int .i64 ln, vl] 153 (0, 0)) ∧ AstAt w lo hi l vl
  | .lnil, v => ∃ a c, v = .slice a 0 c
  | .cons h t, v => ∃ b off n c vh, v = .slice (some ⟨b, off, none⟩) (n + 1) c ∧ lo ≤ b ∧ b < hi ∧ w.cell? ⟨b, off, none⟩ = some vh ∧
      AstAt w lo hi h vh ∧ AstAt w lo hi t (.slice (some ⟨b, off + 1, none⟩) n (c - 1))

theorem cell_of_heap {w : World} {b o : Nat} {c : Array Value} {T : TypeId} {f : Nat × Nat} (h : w.heap[b]? = some (.cells c T f)) :
    w.cell? ⟨b, o, none⟩ = c[o]? := by simp [World.cell?, h]

theorem cells_of_heap {w : World} {b : Nat} {c : Array Value} {T : TypeId} (h : w.heap[b]? = some (.cells c T (0, 0))) :
    (∀ o, w.cell? ⟨b, o, none⟩ = c[o]?) ∧ (∀ o, w.frozen? ⟨b, o, none⟩ = false) ∧ b < w.heap.size := by
  refine ⟨fun o => cell_of_heap h, fun o => by simp [World.frozen?, h], ?_⟩
  by_cases hb : b < w.heap.size
  · exact hb
  · rw [Array.getElem?_eq_none (by omega)] at h; cases h

theorem cell_same {w w' : World} {b o : Nat} (h : w'.heap[b]? = w.heap[b]?) : w'.cell? ⟨b, o, none⟩ = w.cell? ⟨b, o, none⟩ := by simp [World.cell?, h]

/-- A tree stays where its blocks stay. -/
theorem AstAt.keep {w w' : World} {lo hi lo' hi' : Nat} (hk : ∀ b, lo ≤ b → b < hi → w'.heap[b]? = w.heap[b]?) (h1 : lo' ≤ lo) (h2 : hi ≤ hi') :
    ∀ {a : Ast} {v : Value}, AstAt w lo hi a v → AstAt w' lo' hi' a v := by
  intro a
  induction a with
  | nil => intro v h; exact h
  | exp k t ln l r ihl ihr =>
    rintro v ⟨b, vl, vr, rfl, hlo, hhi, hc, hl, hr⟩
    exact ⟨b, vl, vr, rfl, by omega, by omega, by rw [hk b hlo hhi]; exact hc, ihl hl, ihr hr⟩
  | stm k t e f body rest link ih1 ih2 ih3 ih4 =>
    rintro v ⟨b, ve, vf, vb, vr, rfl, hlo, hhi, hc, g1, g2, g3, g4⟩
    exact ⟨b, ve, vf, vb, vr, rfl, by omega, by omega, by rw [hk b hlo hhi]; exact hc, ih1 g1, ih2 g2, ih3 g3, ih4 g4⟩
  | blk ln l ih =>
    rintro v ⟨b, vl, rfl, hlo, hhi, hc, hl⟩
    exact ⟨b, vl, rfl, by omega, by omega, by rw [hk b hlo hhi]; exact hc, ih hl⟩
  | lnil => intro v h; exact h
  | cons h t ih1 ih2 =>
    rintro v ⟨b, off, n, c, vh, rfl, hlo, hhi, hc, g1, g2⟩
    exact ⟨b, off, n, c, vh, rfl, by omega, by omega, by rw [cell_same (hk b hlo hhi)]; exact hc, ih1 g1, ih2 g2⟩

theorem ret_int {k : IntKind} {a b : Int} (h : a = b) : Ending.returned (.int k a) = .returned (.int k b) := by rw [h]
theorem ret_bool {a b : Bool} (h : a = b) : Ending.returned (.bool a) = .returned (.bool b) := by rw [h]
theorem szA (w : World) (o : Obj) : (w.alloc o).heap.size = w.heap.size + 1 := by simp
theorem szD (w : World) : w.drew.heap.size = w.heap.size := rfl
theorem szN (w : World) (n : Nat) : (w.drewN n).heap.size = w.heap.size := rfl
theorem szS (w : World) (a : Addr) (v : Value) : (w.setCell a v).heap.size = w.heap.size := by simp [World.setCell]

/-- Every block is as it was; there may be more. The streams are as they were. -/
structure Ext (w w' : World) : Prop where
  os : w'.os = w.os
  tape : w'.tape = w.tape
  output : w'.output = w.output
  size : w.heap.size ≤ w'.heap.size
  block : ∀ k, k < w.heap.size → w'.heap[k]? = w.heap[k]?

theorem Ext.below {w w' : World} (h : Ext w w') : Below w.heap.size w w' := ⟨h.os, h.tape, h.output, h.size, h.block⟩
theorem Ext.of_below {w w' : World} (h : Below w.heap.size w w') : Ext w w' := ⟨h.os, h.tape, h.output, h.size, h.block⟩
theorem Ext.refl (w : World) : Ext w w := ⟨rfl, rfl, rfl, Nat.le_refl _, fun _ _ => rfl⟩
theorem Ext.trans {a b c : World} (h : Ext a b) (k : Ext b c) : Ext a c :=
  ⟨k.os.trans h.os, k.tape.trans h.tape, k.output.trans h.output, Nat.le_trans h.size k.size, fun i hi => (k.block i (Nat.lt_of_lt_of_le hi h.size)).trans (h.block i hi)⟩
theorem Ext.drew {a w : World} (h : Ext a w) : Ext a w.drew := ⟨h.os, h.tape, h.output, h.size, h.block⟩
theorem Ext.drewN {a w : World} (h : Ext a w) (n : Nat) : Ext a (w.drewN n) := ⟨h.os, h.tape, h.output, h.size, h.block⟩
theorem Ext.alloc {a w : World} (h : Ext a w) (o : Obj) : Ext a (w.alloc o) :=
  h.trans ⟨rfl, rfl, rfl, by simp, fun k hk => Below.heap_alloc _ _ _ hk⟩
theorem Ext.setCell {a w : World} (h : Ext a w) {p : Addr} (hp : a.heap.size ≤ p.block) (u : Value) : Ext a (w.setCell p u) :=
  ⟨h.os, h.tape, h.output, by have := h.size; simpa [World.setCell] using this, fun k hk => by
    rw [Below.heap_setCell _ _ _ _ (by omega)]; exact h.block k hk⟩
theorem Ext.cell {w w' : World} (h : Ext w w') (b o : Nat) (hb : b < w.heap.size) : w'.cell? ⟨b, o, none⟩ = w.cell? ⟨b, o, none⟩ := cell_same (h.block b hb)
theorem Ext.frozen {w w' : World} (h : Ext w w') (b o : Nat) (hb : b < w.heap.size) : w'.frozen? ⟨b, o, none⟩ = w.frozen? ⟨b, o, none⟩ := World.frozen?_of_block (w := w) (h.block b hb)
theorem Ext.ast {w w' : World} (h : Ext w w') {lo hi lo' hi' : Nat} (hhi : hi ≤ w.heap.size) (h1 : lo' ≤ lo) (h2 : hi ≤ hi') {a : Ast} {v : Value} (g : AstAt w lo hi a v) : AstAt w' lo' hi' a v :=
  g.keep (fun b _ h2 => h.block b (by omega)) h1 h2

/-- What a store makes of a block. -/
def setAt (i : Nat) (v : Value) : Obj → Obj
  | .cells c T f => .cells (c.setIfInBounds i v) T f
  | o => o

theorem heapS (w : World) (b i : Nat) (v : Value) (k : Nat) : (w.setCell ⟨b, i, none⟩ v).heap[k]? = if k = b then (w.heap[k]?).map (setAt i v) else w.heap[k]? := by
  by_cases h : k = b
  · subst h
    simp only [World.setCell, Array.getElem?_modify, if_true]
    cases w.heap[k]? with
    | none => rfl
    | some o => cases o <;> rfl
  · rw [if_neg h]; exact Below.heap_setCell _ _ _ _ h
theorem heapA (w : World) (o : Obj) (k : Nat) : (w.alloc o).heap[k]? = if k = w.heap.size then some o else w.heap[k]? := by
  show (w.heap.push o)[k]? = _
  rw [Array.getElem?_push]
theorem heapD (w : World) (k : Nat) : w.drew.heap[k]? = w.heap[k]? := rfl

/-- The two rules by which a walk reads behind a call. -/
theorem Ext.rules {w w' : World} (h : Ext w w') : (∀ b o, b < w.heap.size → w'.cell? ⟨b, o, none⟩ = w.cell? ⟨b, o, none⟩) ∧ (∀ b o, b < w.heap.size → w'.frozen? ⟨b, o, none⟩ = w.frozen? ⟨b, o, none⟩) :=
  ⟨fun b o hb => h.cell b o hb, fun b o hb => h.frozen b o hb⟩

/-- Every block but r is as it was; the streams too. -/
structure Kp (r : Nat) (w w' : World) : Prop where
  os : w'.os = w.os
  tape : w'.tape = w.tape
  output : w'.output = w.output
  size : w.heap.size ≤ w'.heap.size
  block : ∀ k, k < w.heap.size → k ≠ r → w'.heap[k]? = w.heap[k]?

theorem Ext.kp {w w' : World} (h : Ext w w') (r : Nat) : Kp r w w' := ⟨h.os, h.tape, h.output, h.size, fun k hk _ => h.block k hk⟩
theorem Kp.refl (r : Nat) (w : World) : Kp r w w := ⟨rfl, rfl, rfl, Nat.le_refl _, fun _ _ _ => rfl⟩
theorem Kp.trans {r : Nat} {a b c : World} (h : Kp r a b) (k : Kp r b c) : Kp r a c :=
  ⟨k.os.trans h.os, k.tape.trans h.tape, k.output.trans h.output, Nat.le_trans h.size k.size, fun i hi hr => (k.block i (Nat.lt_of_lt_of_le hi h.size) hr).trans (h.block i hi hr)⟩
theorem Kp.drew {r : Nat} {a w : World} (h : Kp r a w) : Kp r a w.drew := ⟨h.os, h.tape, h.output, h.size, h.block⟩
theorem Kp.drewN {r : Nat} {a w : World} (h : Kp r a w) (n : Nat) : Kp r a (w.drewN n) := ⟨h.os, h.tape, h.output, h.size, h.block⟩
theorem Kp.alloc {r : Nat} {a w : World} (h : Kp r a w) (o : Obj) : Kp r a (w.alloc o) :=
  h.trans ⟨rfl, rfl, rfl, by simp, fun k hk _ => Below.heap_alloc _ _ _ hk⟩
theorem Kp.setCell {r : Nat} {a w : World} (h : Kp r a w) {p : Addr} (hp : p.block = r ∨ a.heap.size ≤ p.block) (u : Value) : Kp r a (w.setCell p u) :=
  ⟨h.os, h.tape, h.output, by have := h.size; simpa [World.setCell] using this, fun k hk hr => by
    rw [Below.heap_setCell _ _ _ _ (by omega)]; exact h.block k hk hr⟩
theorem Kp.ext {r : Nat} {a b c : World} (h : Kp r a b) (k : Ext b c) : Kp r a c := h.trans (k.kp r)
/-- What was not there at the start does not count. -/
theorem Kp.fresh {r : Nat} {a b : World} (h : Kp r a b) (hr : a.heap.size ≤ r) : Ext a b := ⟨h.os, h.tape, h.output, h.size, fun k hk => h.block k hk (by omega)⟩
theorem Kp.cell {r : Nat} {w w' : World} (h : Kp r w w') (b o : Nat) (hb : b < w.heap.size) (hr : b ≠ r) : w'.cell? ⟨b, o, none⟩ = w.cell? ⟨b, o, none⟩ := cell_same (h.block b hb hr)
theorem Kp.frozen {r : Nat} {w w' : World} (h : Kp r w w') (b o : Nat) (hb : b < w.heap.size) (hr : b ≠ r) : w'.frozen? ⟨b, o, none⟩ = w.frozen? ⟨b, o, none⟩ := World.frozen?_of_block (w := w) (h.block b hb hr)
theorem Kp.heap {r : Nat} {w w' : World} (h : Kp r w w') : ∀ k, k < w.heap.size → k ≠ r → w'.heap[k]? = w.heap[k]? := h.block
theorem Kp.rules {r : Nat} {w w' : World} (h : Kp r w w') : (∀ b o, b < w.heap.size → b ≠ r → w'.cell? ⟨b, o, none⟩ = w.cell? ⟨b, o, none⟩) ∧ (∀ b o, b < w.heap.size → b ≠ r → w'.frozen? ⟨b, o, none⟩ = w.frozen? ⟨b, o, none⟩) :=
  ⟨fun b o hb hr => h.cell b o hb hr, fun b o hb hr => h.frozen b o hb hr⟩
theorem Kp.ast {r : Nat} {w w' : World} (h : Kp r w w') {lo hi lo' hi' : Nat} (hlo : r < lo) (hhi : hi ≤ w.heap.size) (h1 : lo' ≤ lo) (h2 : hi ≤ hi') {a : Ast} {v : Value} (g : AstAt w lo hi a v) : AstAt w' lo' hi' a v :=
  g.keep (fun b h1 h2 => h.block b (by omega) (by omega)) h1 h2

end Go.Proofs.YtgjgaeloehfhiaaGreatDoor
end
section
/- The reader's small functions: peek, is, take, give, want, may. -/
namespace Go.Proofs.YtgjgaeloehfhiaaGreatDoor
open Go.RowKit

/-- A list of tokens in the block lb. -/
def TokArr (w : World) (lb : Nat) (toks : List Tok) : Prop := ∀ i, i < toks.length →
  w.cell? ⟨lb, i * 4, none⟩ = some (.int .i64 (toks.getD i default).kind) ∧ w.cell? ⟨lb, i * 4 + 1, none⟩ = some (.string (toks.getD i default).text) ∧
  w.cell? ⟨lb, i * 4 + 2, none⟩ = some (.int .i64 (toks.getD i default).line) ∧ w.cell? ⟨lb, i * 4 + 3, none⟩ = some (.int .u32 (toks.getD i default).num)

/-- The reader at rb goes through the tokens and stands at place at_. -/
structure RdAt (w : World) (rb lb cap : Nat) (toks : List Tok) (at_ : Nat) : Prop where
  h0 : w.cell? ⟨rb, 0, none⟩ = some (.slice (some ⟨lb, 0, none⟩) toks.length cap)
  h1 : w.cell? ⟨rb, 1, none⟩ = some (.int .i64 at_)
  f1 : w.frozen? ⟨rb, 1, none⟩ = false
  sr : rb < w.heap.size
  sl : lb < w.heap.size
  ne : lb ≠ rb
  arr : TokArr w lb toks
  len : toks.length ≤ 100000
  at_lt : at_ < toks.length
  fin : (toks.getD (toks.length - 1) default).kind = 4 ∨ (toks.getD (toks.length - 1) default).kind = 5

theorem RdAt.moved {w w' : World} {rb lb cap : Nat} {toks : List Tok} {at_ at' : Nat} (h : RdAt w rb lb cap toks at_) (hk : Kp rb w w')
    (c0 : w'.cell? ⟨rb, 0, none⟩ = w.cell? ⟨rb, 0, none⟩) (c1 : w'.cell? ⟨rb, 1, none⟩ = some (.int .i64 at')) (f1 : w'.frozen? ⟨rb, 1, none⟩ = false) (hl : at' < toks.length) :
    RdAt w' rb lb cap toks at' := by
  obtain ⟨h0, h1, _, sr, sl, ne, arr, len, al, fin⟩ := h
  refine ⟨c0.trans h0, c1, f1, Nat.lt_of_lt_of_le sr hk.size, Nat.lt_of_lt_of_le sl hk.size, ne, ?_, len, hl, fin⟩
  intro i hi
  obtain ⟨a, b, c, d⟩ := arr i hi
  exact ⟨by rw [hk.cell _ _ sl ne]; exact a, by rw [hk.cell _ _ sl ne]; exact b, by rw [hk.cell _ _ sl ne]; exact c, by rw [hk.cell _ _ sl ne]; exact d⟩

theorem RdAt.close {w w' : World} {rb lb cap : Nat} {toks : List Tok} {at_ at' : Nat} (h : RdAt w rb lb cap toks at_) (hk : Kp rb w w')
    (c0 : w'.cell? ⟨rb, 0, none⟩ = w.cell? ⟨rb, 0, none⟩) (c1 : w'.cell? ⟨rb, 1, none⟩ = some (.int .i64 at')) (f1 : w'.frozen? ⟨rb, 1, none⟩ = false) (hl : at' < toks.length) :
    Kp rb w w' ∧ RdAt w' rb lb cap toks at' := ⟨hk, h.moved hk c0 c1 f1 hl⟩

theorem RdAt.next_lt {w : World} {rb lb cap : Nat} {toks : List Tok} {at_ : Nat} (h : RdAt w rb lb cap toks at_) (h4 : (toks.getD at_ default).kind ≠ 4) (h5 : (toks.getD at_ default).kind ≠ 5) : at_ + 1 < toks.length := by
  have h1 := h.at_lt
  have h2 := h.fin
  by_cases e : at_ = toks.length - 1
  · rw [e] at h4 h5; omega
  · omega

theorem RdAt.keep {w w' : World} {rb lb cap : Nat} {toks : List Tok} {at_ : Nat} (h : RdAt w rb lb cap toks at_) (hb : Ext w w') : RdAt w' rb lb cap toks at_ := by
  obtain ⟨h0, h1, f1, sr, sl, ne, arr, len, al, fin⟩ := h
  refine ⟨by rw [hb.cell _ _ sr]; exact h0, by rw [hb.cell _ _ sr]; exact h1, by rw [hb.frozen _ _ sr]; exact f1, Nat.lt_of_lt_of_le sr hb.size, Nat.lt_of_lt_of_le sl hb.size, ne, ?_, len, al, fin⟩
  intro i hi
  obtain ⟨a, b, c, d⟩ := arr i hi
  exact ⟨by rw [hb.cell _ _ sl]; exact a, by rw [hb.cell _ _ sl]; exact b, by rw [hb.cell _ _ sl]; exact c, by rw [hb.cell _ _ sl]; exact d⟩

set_option maxHeartbeats 400000 in
theorem peek_any {rb lb cap : Nat} {toks : List Tok} {at_ : Nat} (w : World) (h : RdAt w rb lb cap toks at_) :
    Calls Tryz.prog 52 #[.pointer (some ⟨rb, 0, none⟩)] w fun e w' => e = .returned (toks.getD at_ default).val ∧ Ext w w' := by
  obtain ⟨h0, h1, f1, sr, sl, ne, arr, len, al, fin⟩ := h
  obtain ⟨c0, c1, c2, c3⟩ := arr at_ al
  clear arr fin
  generalize toks.getD at_ default = t at *
  go_enter Tryz.func52, Tryz.ntmps52
  go_wp2
  go_region
  all_goals go_wp2
  all_goals exact bodyPost_ret (v := t.val) (by simp [results, Tryz.results52, go_sem, Tok.val]) rfl ⟨rfl, ((Ext.refl _).alloc _).drew⟩

def isB (t : Tok) (s : ByteArray) : Bool := (t.kind == 0 || t.kind == 1) && t.text.toList == s.toList

set_option maxHeartbeats 400000 in
theorem is_any {rb lb cap : Nat} {toks : List Tok} {at_ : Nat} (w : World) (s : ByteArray) (h : RdAt w rb lb cap toks at_) :
    Calls Tryz.prog 50 #[.pointer (some ⟨rb, 0, none⟩), .string s] w fun e w' => e = .returned (.bool (isB (toks.getD at_ default) s)) ∧ Ext w w' := by
  have hp := peek_any w h
  generalize toks.getD at_ default = t at *
  go_enter Tryz.func50, Tryz.ntmps50
  go_wp2_with fail
  refine hp.mono ?_
  rintro e w1 ⟨rfl, hb⟩
  go_wp2
  · rename_i h0
    go_ret
    exact ⟨by simp [isB, h0], hb.alloc _⟩
  · rename_i h0 h1
    have h1 : t.kind = 1 := by omega
    go_ret
    exact ⟨by simp [isB, h1], hb.alloc _⟩
  · rename_i h0 h1
    have h1 : ¬ t.kind = 1 := by omega
    go_ret
    exact ⟨by simp [isB, h0, h1], hb.alloc _⟩

def faultV (ln code : Int) : Value := .iface 92 (.agg #[.int .i64 ln, .int .i64 code])
def gaveUp (ln : Nat) : Ending := .panicked [{ v := faultV ln 230, recovered := false }]

theorem run_field69_2 (a b c d : Value) (w : World) : (Instr.field 69 (.agg #[a, b, c, d]) 2).run Tryz.prog w = .ok c w := by kernel_rfl
theorem run_field69_0 (a b c d : Value) (w : World) : (Instr.field 69 (.agg #[a, b, c, d]) 0).run Tryz.prog w = .ok a w := by kernel_rfl

set_option maxRecDepth 100000 in
set_option maxHeartbeats 400000 in
theorem give_any {rb lb cap : Nat} {toks : List Tok} {at_ : Nat} (w : World) (h : RdAt w rb lb cap toks at_) :
    Calls Tryz.prog 94 #[.pointer (some ⟨rb, 0, none⟩)] w fun e w' => e = gaveUp (toks.getD at_ default).line ∧ Ext w w' := by
  have hp := peek_any w h
  generalize toks.getD at_ default = t at *
  have hfl := run_field69_2
  go_enter Tryz.func94, Tryz.ntmps94
  go_wp2_with fail
  refine hp.mono ?_
  rintro e w1 ⟨rfl, hb⟩
  go_wp2
  exact ⟨rfl, rfl, hb⟩

theorem beqK {k n : Nat} (h : k ≠ n) : ((k : Int) == (n : Int)) = false := by
  rw [beq_eq_false_iff_ne]; omega

set_option maxRecDepth 100000 in
set_option maxHeartbeats 400000 in
theorem take_bad {rb lb cap : Nat} {toks : List Tok} {at_ : Nat} (w : World) (h : RdAt w rb lb cap toks at_) (hk : (toks.getD at_ default).kind = 4 ∨ (toks.getD at_ default).kind = 5) :
    Calls Tryz.prog 95 #[.pointer (some ⟨rb, 0, none⟩)] w fun e w' => e = gaveUp (toks.getD at_ default).line ∧ Ext w w' := by
  have hp := fun w' (hb : Ext w w') => peek_any w' (h.keep hb)
  have hg := fun w' (hb : Ext w w') => give_any w' (h.keep hb)
  generalize toks.getD at_ default = t at *
  obtain ⟨kind, text, line, num⟩ := t
  simp only at hk
  rcases hk with rfl | rfl
  all_goals
    go_enter Tryz.func95, Tryz.ntmps95
    go_wp2_with fail
    refine (hp _ ((Ext.refl _).alloc _)).mono ?_
    rintro e w1 ⟨rfl, hb⟩
    have hb1 : Ext w w1 := ((Ext.refl _).alloc _).trans hb
    go_wp2_with fail
    refine (hg _ (hb1.alloc _)).mono ?_
    rintro e w2 ⟨rfl, hb2⟩
    exact ⟨rfl, rfl, (hb1.alloc _).trans hb2⟩

theorem RdAt.setCell {w : World} {rb lb cap : Nat} {toks : List Tok} {at_ : Nat} (h : RdAt w rb lb cap toks at_) {p : Addr} (h1 : p.block ≠ rb) (h2 : p.block ≠ lb) (v : Value) : RdAt (w.setCell p v) rb lb cap toks at_ := by
  have e1 : ∀ o, (w.setCell p v).cell? ⟨rb, o, none⟩ = w.cell? ⟨rb, o, none⟩ := fun o => cell_same (Below.heap_setCell _ _ _ _ (Ne.symm h1))
  have e2 : ∀ o, (w.setCell p v).cell? ⟨lb, o, none⟩ = w.cell? ⟨lb, o, none⟩ := fun o => cell_same (Below.heap_setCell _ _ _ _ (Ne.symm h2))
  obtain ⟨h0, h1', f1, sr, sl, ne, arr, len, al, fin⟩ := h
  refine ⟨(e1 0).trans h0, (e1 1).trans h1', ?_, by rw [szS]; exact sr, by rw [szS]; exact sl, ne, ?_, len, al, fin⟩
  · rw [World.frozen?_of_block (w := w) (Below.heap_setCell _ _ _ _ (Ne.symm h1))]; exact f1
  · intro i hi
    obtain ⟨a, b, c, d⟩ := arr i hi
    exact ⟨(e2 _).trans a, (e2 _).trans b, (e2 _).trans c, (e2 _).trans d⟩
theorem RdAt.alloc {w : World} {rb lb cap : Nat} {toks : List Tok} {at_ : Nat} (h : RdAt w rb lb cap toks at_) (o : Obj) : RdAt (w.alloc o) rb lb cap toks at_ := h.keep ((Ext.refl w).alloc o)
theorem RdAt.drew {w : World} {rb lb cap : Nat} {toks : List Tok} {at_ : Nat} (h : RdAt w rb lb cap toks at_) : RdAt w.drew rb lb cap toks at_ := h.keep ((Ext.refl w).drew)

/-- What a walk wants of the reader's cells. -/
theorem RdAt.cells {w : World} {rb lb cap : Nat} {toks : List Tok} {at_ : Nat} (h : RdAt w rb lb cap toks at_) :
    w.cell? ⟨rb, 0, none⟩ = some (.slice (some ⟨lb, 0, none⟩) toks.length cap) ∧ w.cell? ⟨rb, 1, none⟩ = some (.int .i64 at_) ∧ w.frozen? ⟨rb, 1, none⟩ = false ∧ rb < w.heap.size ∧ toks.length ≤ 100000 ∧ at_ < toks.length :=
  ⟨h.h0, h.h1, h.f1, h.sr, h.len, h.at_lt⟩

set_option maxRecDepth 100000 in
set_option maxHeartbeats 400000 in
theorem take_ok {rb lb cap : Nat} {toks : List Tok} {at_ : Nat} (w : World) (h : RdAt w rb lb cap toks at_) (h4 : (toks.getD at_ default).kind ≠ 4) (h5 : (toks.getD at_ default).kind ≠ 5) :
    Calls Tryz.prog 95 #[.pointer (some ⟨rb, 0, none⟩)] w fun e w' => e = .returned (toks.getD at_ default).val ∧ Kp rb w w' ∧ RdAt w' rb lb cap toks (at_ + 1) := by
  have hp := fun w' (hb : Ext w w') => peek_any w' (h.keep hb)
  have hl := h.next_lt h4 h5
  have e4 : (((toks.getD at_ default).kind : Int) == 4) = false := by rw [beq_eq_false_iff_ne]; omega
  have e5 : (((toks.getD at_ default).kind : Int) == 5) = false := by rw [beq_eq_false_iff_ne]; omega
  have HH := Lib.hid h
  obtain ⟨c0, c1, f1, s1, b1, b2⟩ := h.cells
  clear h
  generalize toks.getD at_ default = t at *
  obtain ⟨kind, text, line, num⟩ := t
  simp only at e4 e5
  go_enter Tryz.func95, Tryz.ntmps95
  go_wp2_with fail
  refine (hp _ ((Ext.refl _).alloc _)).mono ?_
  rintro e w1 ⟨rfl, hb⟩
  have s2 := hb.size
  obtain ⟨hc, hf⟩ := hb.rules
  simp only [szA] at s2 hc hf
  have s3 : rb < w.heap.size + 1 := by omega
  have s4 : rb < w1.heap.size := by omega
  have s5 : w.heap.size < w1.heap.size := by omega
  have s6 : w.heap.size ≠ rb := by omega
  have s7 : rb ≠ w.heap.size := by omega
  go_wp2_with fail
  have hk0 : Kp rb w w1 := (((Ext.refl w).alloc _).trans hb).kp rb
  refine bodyPost_ret (v := .agg #[.int .i64 kind, .string text, .int .i64 line, .int .u32 num]) ?_ rfl (show _ ∧ _ ∧ _ from ⟨rfl, ?_⟩)
  · simp [results, Tryz.results95, go_sem, *]
  · refine HH.out.close ?_ ?_ ?_ ?_ hl
    · repeat' (with_reducible first | exact hk0 | exact .inl rfl | exact .inr (Nat.le_refl _) | apply Kp.drew | apply Kp.alloc | apply Kp.setCell)
    · simp [go_sem, *]
    · simp [go_sem, *]
    · simp [go_sem, *]

theorem isB_kind {t : Tok} {s : ByteArray} (h : isB t s = true) : t.kind ≠ 4 ∧ t.kind ≠ 5 := by
  simp [isB] at h
  omega

set_option maxHeartbeats 400000 in
theorem want_ok {rb lb cap : Nat} {toks : List Tok} {at_ : Nat} (w : World) (s : ByteArray) (h : RdAt w rb lb cap toks at_) (hs : isB (toks.getD at_ default) s = true) :
    Calls Tryz.prog 93 #[.pointer (some ⟨rb, 0, none⟩), .string s] w fun e w' => e = .returned (toks.getD at_ default).val ∧ Kp rb w w' ∧ RdAt w' rb lb cap toks (at_ + 1) := by
  have hp := fun w' (hb : Ext w w') => is_any w' s (h.keep hb)
  have ht := fun w' (hb : Ext w w') => take_ok w' (h.keep hb) (isB_kind hs).1 (isB_kind hs).2
  rw [hs] at hp
  clear hs
  obtain ⟨c0, c1, f1, s1, b1, b2⟩ := h.cells
  have HH := Lib.hid h
  clear h
  generalize toks.getD at_ default = t at *
  obtain ⟨kind, text, line, num⟩ := t
  go_enter Tryz.func93, Tryz.ntmps93
  go_wp2_with fail
  refine (hp _ ((Ext.refl _).alloc _)).mono ?_
  rintro e w1 ⟨rfl, hb⟩
  have hb1 : Ext w w1 := ((Ext.refl w).alloc _).trans hb
  go_wp2_with fail
  refine (ht _ hb1).mono ?_
  rintro e w2 ⟨rfl, hk, hr⟩
  have s2 := hb.size
  have s3 := hk.size
  obtain ⟨hc, hf⟩ := hb.rules
  obtain ⟨hc2, hf2⟩ := hk.rules
  simp only [szA] at s2 hc hf
  have s5 : w.heap.size < w1.heap.size := by omega
  have s8 : w.heap.size < w2.heap.size := by omega
  have s6 : w.heap.size ≠ rb := by omega
  have s7 : rb ≠ w.heap.size := by omega
  have hk0 : Kp rb w w2 := (hb1.kp rb).trans hk
  have HR := Lib.hid hr
  obtain ⟨d0, d1, g1, s9, -, -⟩ := hr.cells
  obtain ⟨-, -, -, -, -, -, -, -, hl, -⟩ := hr
  go_wp2_with fail
  refine bodyPost_ret (v := .agg #[.int .i64 kind, .string text, .int .i64 line, .int .u32 num]) ?_ rfl (show _ ∧ _ ∧ _ from ⟨rfl, ?_⟩)
  · simp [results, Tryz.results93, go_sem, *]
  · refine HH.out.close ?_ ?_ ?_ ?_ hl
    · repeat' (with_reducible first | exact hk0 | exact .inl rfl | exact .inr (Nat.le_refl _) | apply Kp.drew | apply Kp.alloc | apply Kp.setCell)
    · simp [go_sem, *]
    · simp [go_sem, *]
    · simp [go_sem, *]

set_option maxHeartbeats 400000 in
theorem want_bad {rb lb cap : Nat} {toks : List Tok} {at_ : Nat} (w : World) (s : ByteArray) (h : RdAt w rb lb cap toks at_) (hs : isB (toks.getD at_ default) s = false) :
    Calls Tryz.prog 93 #[.pointer (some ⟨rb, 0, none⟩), .string s] w fun e w' => e = gaveUp (toks.getD at_ default).line ∧ Ext w w' := by
  have hp := fun w' (hb : Ext w w') => is_any w' s (h.keep hb)
  have hg := fun w' (hb : Ext w w') => give_any w' (h.keep hb)
  rw [hs] at hp
  generalize toks.getD at_ default = t at *
  clear hs h
  go_enter Tryz.func93, Tryz.ntmps93
  go_wp2_with fail
  refine (hp _ ((Ext.refl _).alloc _)).mono ?_
  rintro e w1 ⟨rfl, hb⟩
  have hb1 : Ext w w1 := ((Ext.refl w).alloc _).trans hb
  go_wp2_with fail
  refine (hg _ hb1).mono ?_
  rintro e w2 ⟨rfl, hb2⟩
  exact ⟨rfl, rfl, hb1.trans hb2⟩

set_option maxHeartbeats 400000 in
theorem may_no {rb lb cap : Nat} {toks : List Tok} {at_ : Nat} (w : World) (s : ByteArray) (h : RdAt w rb lb cap toks at_) (hs : isB (toks.getD at_ default) s = false) :
    Calls Tryz.prog 96 #[.pointer (some ⟨rb, 0, none⟩), .string s] w fun e w' => e = .returned (.bool false) ∧ Ext w w' := by
  have hp := fun w' (hb : Ext w w') => is_any w' s (h.keep hb)
  rw [hs] at hp
  clear hs h
  go_enter Tryz.func96, Tryz.ntmps96
  go_wp2_with fail
  refine (hp _ (Ext.refl _)).mono ?_
  rintro e w1 ⟨rfl, hb⟩
  go_wp2_with fail
  go_ret
  exact ⟨rfl, hb⟩

set_option maxHeartbeats 400000 in
theorem may_yes {rb lb cap : Nat} {toks : List Tok} {at_ : Nat} (w : World) (s : ByteArray) (h : RdAt w rb lb cap toks at_) (hs : isB (toks.getD at_ default) s = true) :
    Calls Tryz.prog 96 #[.pointer (some ⟨rb, 0, none⟩), .string s] w fun e w' => e = .returned (.bool true) ∧ Kp rb w w' ∧ RdAt w' rb lb cap toks (at_ + 1) := by
  have hp := fun w' (hb : Ext w w') => is_any w' s (h.keep hb)
  have ht := fun w' (hb : Ext w w') => take_ok w' (h.keep hb) (isB_kind hs).1 (isB_kind hs).2
  rw [hs] at hp
  clear hs h
  go_enter Tryz.func96, Tryz.ntmps96
  go_wp2_with fail
  refine (hp _ (Ext.refl _)).mono ?_
  rintro e w1 ⟨rfl, hb⟩
  go_wp2_with fail
  refine (ht _ hb).mono ?_
  rintro e w2 ⟨rfl, hk, hr⟩
  go_wp2_with fail
  go_ret
  exact ⟨rfl, (hb.kp rb).trans hk, hr⟩
end Go.Proofs.YtgjgaeloehfhiaaGreatDoor
end
