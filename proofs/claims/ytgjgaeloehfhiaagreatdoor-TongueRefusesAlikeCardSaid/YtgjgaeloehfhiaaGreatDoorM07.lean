/- The generator's state: as plain data; how it lies in memory; put. -/
import Derived.Test.YtgjgaeloehfhiaaGreatDoorM06
namespace Go.Proofs.YtgjgaeloehfhiaaGreatDoor
open Go.RowKit

/-- An instruction. -/
structure Ins where
  op : Int
  a : Int
  b : Int
  imm : Int
deriving Inhabited, DecidableEq

def Ins.cells (i : Ins) : List Value := [.int .i64 i.op, .int .i64 i.a, .int .i64 i.b, .int .i64 i.imm]

/-- The maker: what it has put out; its labels: where each lies, the jumps to it; which of them is the trap, which are the innermost loop's. -/
structure GSt where
  out : List Ins
  labs : List (Nat × List Nat)
  trap : Nat
  head : Option Nat
  tail : Option Nat

def GSt.put (S : GSt) (op a b imm : Int) : GSt := { S with out := S.out ++ [⟨op, a, b, imm⟩] }
def GSt.newLab (S : GSt) : GSt := { S with labs := S.labs ++ [(0, [])] }
def GSt.mark (S : GSt) (i : Nat) : GSt := { S with labs := S.labs.set i ((S.labs.getD i default).1, (S.labs.getD i default).2 ++ [S.out.length]) }
def GSt.jump (S : GSt) (op a : Int) (i : Nat) : GSt := (S.mark i).put op a 0 0
def GSt.land (S : GSt) (i : Nat) : GSt := { S with labs := S.labs.set i (S.out.length, (S.labs.getD i default).2) }
def settleL (at_ : Nat) : List Nat → List Ins → List Ins
  | [], o => o
  | j :: js, o => settleL at_ js (o.set j { o.getD j default with imm := (at_ : Int) - j - 1 })
def GSt.settle (S : GSt) (i : Nat) : GSt := { S with out := settleL (S.labs.getD i default).1 (S.labs.getD i default).2 S.out }

theorem settleL_len (at_ : Nat) : ∀ (js : List Nat) (o : List Ins), (settleL at_ js o).length = o.length
  | [], o => rfl
  | j :: js, o => by rw [settleL, settleL_len at_ js]; simp

def labPtr (bs : List Nat) : Option Nat → Value
  | none => .pointer none
  | some i => .pointer (some ⟨bs.getD i 0, 0, none⟩)

/-- The labels in memory: their blocks, the values of their lists of jumps. -/
structure LabsAt (w : World) (base : Nat) (bs : List Nat) (vs : List Value) (labs : List (Nat × List Nat)) : Prop where
  bl : bs.length = labs.length
  vl : vs.length = labs.length
  blk : ∀ i, i < labs.length → base ≤ bs.getD i 0 ∧ w.heap[bs.getD i 0]? = some (.cells #[.int .i64 (labs.getD i default).1, vs.getD i default] 157 (0, 0))
  row : ∀ i, i < labs.length → w.ownsRow base 3 1 (vs.getD i default) (labs.getD i default).2.length ((labs.getD i default).2.map fun (n : Nat) => Value.int .i64 (n : Int))
  inj : ∀ i j, i < labs.length → j < labs.length → i ≠ j → bs.getD i 0 ≠ bs.getD j 0 ∧ ∀ g, (vs.getD i default).ownBlock = some g → (vs.getD j default).ownBlock ≠ some g

theorem own_heap {w : World} {base e size n : Nat} {v : Value} {xs : List Value} (h : w.ownsRow base e size v n xs) {g : Nat} (hg : v.ownBlock = some g) : ∃ cur, w.heap[g]? = some (.cells cur e (0, 0)) := by
  rcases h.2 with ⟨rfl, _⟩ | ⟨g', _, cur, rfl, hb, hh, _⟩
  · simp [Value.ownBlock] at hg
  · simp only [Value.ownBlock, Option.some.injEq] at hg
    subst hg
    exact ⟨cur, hh⟩

theorem own_slc {w : World} {base e size n : Nat} {v : Value} {xs : List Value} (h : w.ownsRow base e size v n xs) (hn : 0 < n) : ∃ g cap, v = .slice (some ⟨g, 0, none⟩) n cap := by
  rcases h.2 with ⟨_, h0⟩ | ⟨g, cap, _, h0, _⟩
  · omega
  · exact ⟨g, cap, h0⟩

theorem LabsAt.keep {w w' : World} {base : Nat} {bs : List Nat} {vs : List Value} {labs : List (Nat × List Nat)} (h : LabsAt w base bs vs labs)
    (hk : ∀ k c, base ≤ k → (w.heap[k]? = some (.cells c 157 (0, 0)) ∨ w.heap[k]? = some (.cells c 3 (0, 0))) → w'.heap[k]? = w.heap[k]?) : LabsAt w' base bs vs labs := by
  refine ⟨h.bl, h.vl, fun i hi => ?_, fun i hi => ?_, h.inj⟩
  · obtain ⟨h1, h2⟩ := h.blk i hi
    exact ⟨h1, (hk _ _ h1 (.inl h2)).trans h2⟩
  · have hr := h.row i hi
    refine own_keep hr (fun g hg => ?_) (Nat.le_refl _)
    obtain ⟨cur, hc⟩ := own_heap hr hg
    exact hk g cur (own_block hr hg).1 (.inr hc)

/-- The maker at mb, its program's unit at ub. -/
def MkAt (w : World) (base mb ub : Nat) (bs : List Nat) (S : GSt) : Prop := ∃ (vo : Value) (vs : List Value),
  w.heap[mb]? = some (.cells #[.pointer (some ⟨ub, 0, none⟩), vo, labPtr bs (some S.trap), labPtr bs S.head, labPtr bs S.tail] 159 (0, 0)) ∧ base ≤ mb ∧ w.ownsRow base 53 4 vo S.out.length (S.out.flatMap Ins.cells) ∧ LabsAt w base bs vs S.labs

theorem MkAt.size {w : World} {base mb ub : Nat} {bs : List Nat} {S : GSt} (h : MkAt w base mb ub bs S) : base ≤ mb ∧ mb < w.heap.size := by
  obtain ⟨vo, vs, h1, h2, _⟩ := h
  exact ⟨h2, (cells_of_heap h1).2.2⟩

theorem MkAt.ext {w w' : World} {base mb ub : Nat} {bs : List Nat} {S : GSt} (h : MkAt w base mb ub bs S) (hE : Ext w w') : MkAt w' base mb ub bs S := by
  obtain ⟨vo, vs, h1, h2, h3, h4⟩ := h
  have hin : ∀ {k : Nat} {o : Obj}, w.heap[k]? = some o → k < w.heap.size := fun {k o} hk => (Array.getElem?_eq_some_iff.1 hk).1
  exact ⟨vo, vs, (hE.block _ (hin h1)).trans h1, h2, own_keep h3 (fun g hg => hE.block g (own_block h3 hg).2) (Nat.le_refl _), h4.keep fun k c _ hc => hc.elim (fun hc => hE.block k (hin hc)) (fun hc => hE.block k (hin hc))⟩

/-- What the maker's work leaves alone: all below base; places and steps that the calls hold. -/
structure GFr (base : Nat) (w w' : World) : Prop where
  below : Below base w w'
  typ : ∀ (k : Nat) (c : Array Value) (T : TypeId), w.heap[k]? = some (.cells c T (0, 0)) → (T = 82 ∨ T = 261) → w'.heap[k]? = w.heap[k]?
theorem GFr.refl (base : Nat) (w : World) : GFr base w w := ⟨Below.refl _ _, fun _ _ _ _ _ => rfl⟩
theorem GFr.trans {base : Nat} {a b c : World} (h : GFr base a b) (k : GFr base b c) : GFr base a c := ⟨h.below.trans k.below, fun i d T hi hT => by
  have h1 := h.typ i d T hi hT
  exact (k.typ i d T (h1.trans hi) hT).trans h1⟩
theorem GFr.of_ext {base : Nat} {w w' : World} (h : Ext w w') (hb : base ≤ w.heap.size) : GFr base w w' := ⟨h.belowB hb, fun k _ _ hk _ => h.block k (Array.getElem?_eq_some_iff.1 hk).1⟩

theorem flatIns_len : ∀ l : List Ins, (l.flatMap Ins.cells).length = l.length * 4
  | [] => rfl
  | t :: l => by rw [List.flatMap_cons, List.length_append, flatIns_len l, List.length_cons]; simp [Ins.cells]; omega

theorem info53 : (Tryz.prog.info? 53).map (fun i => (i.zero, i.size, i.bytes)) = some (some (.agg #[.int .i64 0, .int .i64 0, .int .i64 0, .int .i64 0]), 4, 32) := by kernel_rfl
theorem info3 : (Tryz.prog.info? 3).map (fun i => (i.zero, i.size, i.bytes)) = some (some (.int .i64 0), 1, 8) := by kernel_rfl

set_option maxRecDepth 100000 in
set_option maxHeartbeats 1600000 in
theorem put_any {base mb ub : Nat} {bs : List Nat} {S : GSt} (op a b imm : Int) (w : World) (h : MkAt w base mb ub bs S) (hlen : S.out.length ≤ 100000000) :
    Calls Tryz.prog 58 #[.pointer (some ⟨mb, 0, none⟩), .int .i64 op, .int .i64 a, .int .i64 b, .int .i64 imm] w fun e w' => e = .returned (.tuple #[]) ∧ MkAt w' base mb ub bs (S.put op a b imm) ∧ GFr base w w' := by
  obtain ⟨vo, vs, h1, hbm, hrow, hlabs⟩ := h
  obtain ⟨c0, c1, hmb⟩ := cells_of_heap h1
  have c0 := c0 1
  have c1 := c1 1
  simp only [List.getElem?_toArray, List.getElem?_cons_zero, List.getElem?_cons_succ] at c0
  obtain ⟨i0, hi0, hz0, hz1, hz2⟩ := info_parts info53
  have CONT : ∀ {o : Oper} {rest : List Oper} {ops : Array Oper} {A : Act} {Q : Exit → Act → World → Prop}, o.guard = none → o.op = .call { callee := .builtin .append, args := #[.tmp 14, .tmp 20], argTypes := #[49, 49] } → A.eval (.tmp 14) = vo → A.eval (.tmp 20) = .slice (some ⟨w.heap.size, 0, none⟩) 1 1 →
      (∀ (g cap : Nat) w3, w3.cell? ⟨mb, 1, none⟩ = some vo → w3.frozen? ⟨mb, 1, none⟩ = false → Hid (MkAt (w3.setCell ⟨mb, 1, none⟩ (.slice (some ⟨g, 0, none⟩) (S.out.length + 1) cap)) base mb ub bs (S.put op a b imm) ∧ GFr base w (w3.setCell ⟨mb, 1, none⟩ (.slice (some ⟨g, 0, none⟩) (S.out.length + 1) cap))) → wpList Tryz.prog ops Q rest (A.put o.dst (.slice (some ⟨g, 0, none⟩) (S.out.length + 1) cap)) w3) →
      wpList Tryz.prog ops Q (o :: rest) A (w.alloc (.cells #[.int .i64 op, .int .i64 a, .int .i64 b, .int .i64 imm] 53)) := by
    intro o rest ops A Q hgd ho e1 e2 k
    have hE : Ext w (w.alloc (.cells #[.int .i64 op, .int .i64 a, .int .i64 b, .int .i64 imm] 53)) := (Ext.refl w).alloc _
    refine wpList_own_append hgd (.tmp 14) (.tmp 20) 49 ho base 53 i0 _ 4 32 Tryz.underlying49 hi0 hz0 hz1 hz2 rfl (by decide) vo S.out.length (S.out.flatMap Ins.cells) e1 (own_keep hrow (fun g hg => hE.block g (own_block hrow hg).2) (Nat.le_refl _))
      ⟨w.heap.size, 0, none⟩ 1 1 (Ins.cells ⟨op, a, b, imm⟩) e2 rfl ?_ ?_ (by simp only [maxLen]; omega) (by omega) (by rw [szA]; omega) ?_
    · intro j u hu
      rw [add0, cell_of_heap (c := #[.int .i64 op, .int .i64 a, .int .i64 b, .int .i64 imm]) (T := 53) (f := (0, 0)) (by rw [heapA, if_pos rfl])]
      simpa [Ins.cells] using hu
    · intro u hu
      simp only [Ins.cells, List.mem_cons, List.not_mem_nil, or_false] at hu
      rcases hu with rfl | rfl | rfl | rfl <;> rfl
    intro v' w3 hrow3 hg3 hb3
    obtain ⟨g, cap, rfl⟩ := own_slc hrow3 (by omega)
    have hsz3 := hg3.size
    rw [szA] at hsz3
    have same : ∀ k, k < w.heap.size → vo.ownBlock ≠ some k → w3.heap[k]? = w.heap[k]? := fun k hk hne => by
      rw [hg3.block k (by rw [szA]; omega) (fun e => hne e.symm), heapA, if_neg (by omega)]
    have hnm : vo.ownBlock ≠ some mb := fun e => by
      obtain ⟨cur, hc⟩ := own_heap hrow e
      rw [h1] at hc
      simp at hc
    have h13 : w3.heap[mb]? = some (.cells #[.pointer (some ⟨ub, 0, none⟩), vo, labPtr bs (some S.trap), labPtr bs S.head, labPtr bs S.tail] 159 (0, 0)) := (same mb hmb hnm).trans h1
    obtain ⟨d0, d1, -⟩ := cells_of_heap h13
    refine k g cap w3 (by rw [d0]; rfl) (d1 1) (Lib.hid ⟨⟨.slice (some ⟨g, 0, none⟩) (S.out.length + 1) cap, vs, ?_, hbm, ?_, ?_⟩, ?_⟩)
    · rw [heapS, if_pos rfl, h13]; rfl
    · have h5 : w3.ownsRow base 53 4 (.slice (some ⟨g, 0, none⟩) (S.out.length + 1) cap) (S.put op a b imm).out.length ((S.put op a b imm).out.flatMap Ins.cells) := by
        simp only [GSt.put, List.length_append, List.length_cons, List.length_nil, List.flatMap_append, List.flatMap_cons, List.flatMap_nil, List.append_nil]
        exact hrow3
      refine own_keep h5 (fun g hg => ?_) (Nat.le_refl _)
      rw [heapS, if_neg]
      rintro rfl
      obtain ⟨cur, hc⟩ := own_heap h5 hg
      rw [h13] at hc
      simp at hc
    · refine hlabs.keep fun k c hk hc => ?_
      have hkl : k < w.heap.size := hc.elim (fun hc => (Array.getElem?_eq_some_iff.1 hc).1) (fun hc => (Array.getElem?_eq_some_iff.1 hc).1)
      rw [heapS, if_neg, same k hkl]
      · intro e
        obtain ⟨cur, hc2⟩ := own_heap hrow e
        rw [hc2] at hc
        simp at hc
      · rintro rfl
        rw [h1] at hc
        simp at hc
    · refine ⟨Below.setCell (p := ⟨mb, 1, none⟩) (Below.grown (hE.belowB (by have := (show base ≤ mb from hbm); omega)) hg3 (by rw [szA]; omega) (fun g hg => (own_block hrow hg).1)) hbm _, fun k c T hk hT => ?_⟩
      rw [heapS, if_neg, same k (Array.getElem?_eq_some_iff.1 hk).1]
      · intro e
        obtain ⟨cur, hc2⟩ := own_heap hrow e
        rw [hc2] at hk
        rcases hT with rfl | rfl <;> simp at hk
      · rintro rfl
        rw [h1] at hk
        rcases hT with rfl | rfl <;> simp at hk
  clear hrow hlabs h1 hz0 hz1 hz2 hi0
  go_enter Tryz.func58, Tryz.ntmps58
  go_wp2_with (refine CONT rfl rfl rfl rfl ?_; intro g1 cap1 w3 hk3 hk4 HP)
  go_end0
  exact ⟨rfl, HP.out⟩
end Go.Proofs.YtgjgaeloehfhiaaGreatDoor
