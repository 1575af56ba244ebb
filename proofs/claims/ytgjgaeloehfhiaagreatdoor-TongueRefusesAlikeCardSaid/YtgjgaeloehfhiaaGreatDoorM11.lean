/- The machine that tells what a program does: its memory; writing, spending, ending. -/
import Derived.Test.YtgjgaeloehfhiaaGreatDoorM10
import Derived.Test.YtgjgaeloehfhiaaGreatDoorM08
import Derived.Test.YtgjgaeloehfhiaaGreatDoorM03
section
namespace Go.Proofs.YtgjgaeloehfhiaaGreatDoor
open Go.RowKit

/-- The end of a program, handed up. -/
def endV (st code : Int) : Value := .iface 123 (.agg #[.int .i64 st, .int .i64 code])
def outCells (o : Int × Nat) : List Value := [.int .i64 o.1, .int .u32 (o.2 : Int)]

/-- The machine's block. -/
structure MCs (cs : Array Value) (ub : Nat) (fuel : Nat) (v : Value) (used : Nat) : Prop where
  size : cs.size = 104
  unit : cs[0]? = some (.pointer (some ⟨ub, 0, none⟩))
  mem : ∀ i, i < 96 → ∃ n : Nat, n < 4294967296 ∧ cs[1 + i]? = some (.int .u32 (n : Int))
  ans : cs[97]? = some (.slice none 0 0)
  fuel : cs[98]? = some (.int .i64 (fuel : Int))
  outs : cs[99]? = some v
  state : cs[100]? = some (.int .i64 0)
  code : cs[101]? = some (.int .i64 0)
  taken : cs[102]? = some (.int .i64 0)
  used : cs[103]? = some (.int .i64 (used : Int))

/-- The machine in memory, at a state. -/
structure MAt (w : World) (mb base ub : Nat) (fuel : Nat) (outs : List (Int × Nat)) (used : Nat) : Prop where
  ex : ∃ cs v, w.heap[mb]? = some (.cells cs 79 (0, 0)) ∧ MCs cs ub fuel v used ∧ w.ownsRow base 43 2 v outs.length (outs.flatMap outCells)
  low : base ≤ mb

/-- What the machine leaves as it was: all below base; all that is neither its block nor a row of outs. -/
structure MFr (base mb : Nat) (w w' : World) : Prop where
  below : Below base w w'
  typ : ∀ (k : Nat) (o : Obj), w.heap[k]? = some o → k ≠ mb → (∀ c f, o ≠ .cells c 43 f) → w'.heap[k]? = some o
theorem MFr.refl (base mb : Nat) (w : World) : MFr base mb w w := ⟨Below.refl _ _, fun _ _ h _ _ => h⟩
theorem MFr.trans {base mb : Nat} {a c d : World} (h : MFr base mb a c) (k : MFr base mb c d) : MFr base mb a d := ⟨h.below.trans k.below, fun i o hi hb ho => k.typ i o (h.typ i o hi hb ho) hb ho⟩
theorem MFr.of_ext {base mb : Nat} {w w' : World} (h : Ext w w') (hB : base ≤ w.heap.size) : MFr base mb w w' := ⟨⟨h.os, h.tape, h.output, h.size, fun k hk => h.block k (by omega)⟩, fun k o hk _ _ => (h.block k (heap_lt hk)).trans hk⟩
theorem MAt.ext {w w' : World} {mb base ub fuel used : Nat} {outs : List (Int × Nat)} (h : MAt w mb base ub fuel outs used) (hE : Ext w w') : MAt w' mb base ub fuel outs used := by
  obtain ⟨⟨cs, v, h1, h2, h3⟩, h4⟩ := h
  exact ⟨⟨cs, v, (hE.block _ (heap_lt h1)).trans h1, h2, own_keep h3 (fun g hg => hE.block g (own_block h3 hg).2) (Nat.le_refl _)⟩, h4⟩

/-- The cells, for a walk. -/
structure MCells (w : World) (mb ub fuel : Nat) (v : Value) (used : Nat) : Prop where
  c0 : w.cell? ⟨mb, 0, none⟩ = some (.pointer (some ⟨ub, 0, none⟩))
  c97 : w.cell? ⟨mb, 97, none⟩ = some (.slice none 0 0)
  c98 : w.cell? ⟨mb, 98, none⟩ = some (.int .i64 (fuel : Int))
  c99 : w.cell? ⟨mb, 99, none⟩ = some v
  c100 : w.cell? ⟨mb, 100, none⟩ = some (.int .i64 0)
  c101 : w.cell? ⟨mb, 101, none⟩ = some (.int .i64 0)
  c102 : w.cell? ⟨mb, 102, none⟩ = some (.int .i64 0)
  c103 : w.cell? ⟨mb, 103, none⟩ = some (.int .i64 (used : Int))
  fz : ∀ i, w.frozen? ⟨mb, i, none⟩ = false
theorem MAt.cells {w : World} {mb base ub fuel used : Nat} {outs : List (Int × Nat)} (h : MAt w mb base ub fuel outs used) : ∃ v, MCells w mb ub fuel v used ∧ w.ownsRow base 43 2 v outs.length (outs.flatMap outCells) ∧ mb < w.heap.size := by
  obtain ⟨⟨cs, v, h1, h2, h3⟩, h4⟩ := h
  obtain ⟨q1, q2, q3⟩ := cells_of_heap h1
  exact ⟨v, ⟨(q1 0).trans h2.unit, (q1 97).trans h2.ans, (q1 98).trans h2.fuel, (q1 99).trans h2.outs, (q1 100).trans h2.state, (q1 101).trans h2.code, (q1 102).trans h2.taken, (q1 103).trans h2.used, q2⟩, h3, q3⟩
theorem MAt.mem {w : World} {mb base ub fuel used : Nat} {outs : List (Int × Nat)} (h : MAt w mb base ub fuel outs used) (i : Nat) (hi : i < 96) : ∃ n : Nat, n < 4294967296 ∧ w.cell? ⟨mb, 1 + i, none⟩ = some (.int .u32 (n : Int)) ∧ w.frozen? ⟨mb, 1 + i, none⟩ = false := by
  obtain ⟨⟨cs, v, h1, h2, h3⟩, h4⟩ := h
  obtain ⟨q1, q2, q3⟩ := cells_of_heap h1
  obtain ⟨n, hn, hc⟩ := h2.mem i hi
  exact ⟨n, hn, (q1 _).trans hc, q2 _⟩

theorem MCs.setUsed {cs : Array Value} {ub fuel used : Nat} {v : Value} (h : MCs cs ub fuel v used) (u : Nat) : MCs (cs.setIfInBounds 103 (.int .i64 (u : Int))) ub fuel v u := by
  have hz := h.size
  refine ⟨by simp [hz], ?_, fun i hi => ?_, ?_, ?_, ?_, ?_, ?_, ?_, ?_⟩
  all_goals rw [Array.getElem?_setIfInBounds]
  · rw [if_neg (by omega)]; exact h.unit
  · rw [if_neg (by omega)]; exact h.mem i hi
  · rw [if_neg (by omega)]; exact h.ans
  · rw [if_neg (by omega)]; exact h.fuel
  · rw [if_neg (by omega)]; exact h.outs
  · rw [if_neg (by omega)]; exact h.state
  · rw [if_neg (by omega)]; exact h.code
  · rw [if_neg (by omega)]; exact h.taken
  · rw [if_pos rfl, if_pos (by omega)]
theorem MCs.setOuts {cs : Array Value} {ub fuel used : Nat} {v : Value} (h : MCs cs ub fuel v used) (v' : Value) : MCs (cs.setIfInBounds 99 v') ub fuel v' used := by
  have hz := h.size
  refine ⟨by simp [hz], ?_, fun i hi => ?_, ?_, ?_, ?_, ?_, ?_, ?_, ?_⟩
  all_goals rw [Array.getElem?_setIfInBounds]
  · rw [if_neg (by omega)]; exact h.unit
  · rw [if_neg (by omega)]; exact h.mem i hi
  · rw [if_neg (by omega)]; exact h.ans
  · rw [if_neg (by omega)]; exact h.fuel
  · rw [if_pos rfl, if_pos (by omega)]
  · rw [if_neg (by omega)]; exact h.state
  · rw [if_neg (by omega)]; exact h.code
  · rw [if_neg (by omega)]; exact h.taken
  · rw [if_neg (by omega)]; exact h.used
theorem MCs.setMem {cs : Array Value} {ub fuel used : Nat} {v : Value} (h : MCs cs ub fuel v used) (i : Nat) (hi : i < 96) (n : Nat) (hn : n < 4294967296) : MCs (cs.setIfInBounds (1 + i) (.int .u32 (n : Int))) ub fuel v used := by
  have hz := h.size
  refine ⟨by simp [hz], ?_, fun j hj => ?_, ?_, ?_, ?_, ?_, ?_, ?_, ?_⟩
  all_goals rw [Array.getElem?_setIfInBounds]
  · rw [if_neg (by omega)]; exact h.unit
  · by_cases hij : i = j
    · subst hij; rw [if_pos rfl, if_pos (by omega)]; exact ⟨n, hn, rfl⟩
    · rw [if_neg (by omega)]; exact h.mem j hj
  · rw [if_neg (by omega)]; exact h.ans
  · rw [if_neg (by omega)]; exact h.fuel
  · rw [if_neg (by omega)]; exact h.outs
  · rw [if_neg (by omega)]; exact h.state
  · rw [if_neg (by omega)]; exact h.code
  · rw [if_neg (by omega)]; exact h.taken
  · rw [if_neg (by omega)]; exact h.used

theorem setCell_fr {w : World} {mb base i : Nat} (hm : base ≤ mb) (x : Value) : MFr base mb w (w.setCell ⟨mb, i, none⟩ x) :=
  ⟨Below.setCell (p := ⟨mb, i, none⟩) (Below.refl _ _) hm _, fun k o hk hb _ => by rw [heapS, if_neg hb]; exact hk⟩
theorem row_other {w : World} {base mb n : Nat} {v : Value} {xs : List Value} {cs : Array Value} (h : w.ownsRow base 43 2 v n xs) (hm : w.heap[mb]? = some (.cells cs 79 (0, 0))) : v.ownBlock ≠ some mb := fun e => by
  obtain ⟨cur, hcur⟩ := own_heap h e
  rw [hm] at hcur
  simp at hcur
theorem MAt.setUsed {w : World} {mb base ub fuel used : Nat} {outs : List (Int × Nat)} (h : MAt w mb base ub fuel outs used) (u : Nat) : MAt (w.setCell ⟨mb, 103, none⟩ (.int .i64 (u : Int))) mb base ub fuel outs u := by
  obtain ⟨⟨cs, v, h1, h2, h3⟩, h4⟩ := h
  refine ⟨⟨_, v, by rw [heapS, if_pos rfl, h1]; rfl, h2.setUsed u, own_keep h3 (fun g hg => ?_) (Nat.le_refl _)⟩, h4⟩
  rw [heapS, if_neg]
  rintro rfl
  exact row_other h3 h1 hg
theorem MAt.setMem {w : World} {mb base ub fuel used : Nat} {outs : List (Int × Nat)} (h : MAt w mb base ub fuel outs used) (i : Nat) (hi : i < 96) (n : Nat) (hn : n < 4294967296) : MAt (w.setCell ⟨mb, 1 + i, none⟩ (.int .u32 (n : Int))) mb base ub fuel outs used := by
  obtain ⟨⟨cs, v, h1, h2, h3⟩, h4⟩ := h
  refine ⟨⟨_, v, by rw [heapS, if_pos rfl, h1]; rfl, h2.setMem i hi n hn, own_keep h3 (fun g hg => ?_) (Nat.le_refl _)⟩, h4⟩
  rw [heapS, if_neg]
  rintro rfl
  exact row_other h3 h1 hg

theorem info43 : (Tryz.prog.info? 43).map (fun i => (i.zero, i.size, i.bytes)) = some (some (.agg #[.int .i64 0, .int .u32 0]), 2, 16) := by kernel_rfl

set_option maxRecDepth 100000 in
set_option maxHeartbeats 1600000 in
theorem out_any {mb base ub fuel used : Nat} {outs : List (Int × Nat)} (call : Int) (x : Nat) (w : World) (h : MAt w mb base ub fuel outs used) (hB : base ≤ w.heap.size) (hlen : outs.length ≤ 70000) :
    Calls Tryz.prog 73 #[.pointer (some ⟨mb, 0, none⟩), .int .i64 call, .int .u32 (x : Int)] w fun e w' => e = .returned (.tuple #[]) ∧ MAt w' mb base ub fuel (outs ++ [(call, x)]) used ∧ MFr base mb w w' := by
  obtain ⟨⟨cs, v, h1, h2, h3⟩, hlow⟩ := h
  obtain ⟨q1, q2, q3⟩ := cells_of_heap h1
  have c99 := (q1 99).trans h2.outs
  have f99 := q2 99
  obtain ⟨va, vc, rfl⟩ := own_form h3
  obtain ⟨i0, hi0, hz0, hz1, hz2⟩ := info_parts info43
  have H1 := Lib.hid h1
  have H2 := Lib.hid h2
  have H3 := Lib.hid h3
  clear h1 h2 h3 q1 q2
  have CONT : ∀ {o : Oper} {rest : List Oper} {ops : Array Oper} {A : Act} {Q : Exit → Act → World → Prop}, o.guard = none → o.op = .call { callee := .builtin .append, args := #[.tmp 11, .tmp 15], argTypes := #[29, 29] } → A.eval (.tmp 11) = .slice va outs.length vc → A.eval (.tmp 15) = .slice (some ⟨w.heap.size, 0, none⟩) 1 1 →
      (∀ (g : Option Addr) (cap : Nat) w3, w3.cell? ⟨mb, 99, none⟩ = some (.slice va outs.length vc) → w3.frozen? ⟨mb, 99, none⟩ = false → Hid (MAt (w3.setCell ⟨mb, 99, none⟩ (.slice g (outs.length + 1) cap)) mb base ub fuel (outs ++ [(call, x)]) used ∧ MFr base mb w (w3.setCell ⟨mb, 99, none⟩ (.slice g (outs.length + 1) cap))) → wpList Tryz.prog ops Q rest (A.put o.dst (.slice g (outs.length + 1) cap)) w3) →
      wpList Tryz.prog ops Q (o :: rest) A (w.alloc (.cells #[.int .i64 call, .int .u32 (x : Int)] 43)) := by
    intro o rest ops A Q hgd ho e1 e2 kk
    have hE : Ext w (w.alloc (.cells #[.int .i64 call, .int .u32 (x : Int)] 43)) := (Ext.refl w).alloc _
    refine wpList_own_append hgd (.tmp 11) (.tmp 15) 29 ho base 43 i0 _ 2 16 Tryz.underlying29 hi0 hz0 hz1 hz2 rfl (by decide) (.slice va outs.length vc) outs.length (outs.flatMap outCells) e1 (own_keep H3.out (fun q hq => hE.block q (own_block H3.out hq).2) (Nat.le_refl _))
      ⟨w.heap.size, 0, none⟩ 1 1 (outCells (call, x)) e2 rfl ?_ ?_ (by simp only [maxLen]; omega) (by omega) (by rw [szA]; omega) ?_
    · intro j u hu
      rw [add0, cell_of_heap (c := #[.int .i64 call, .int .u32 (x : Int)]) (T := 43) (f := (0, 0)) (by rw [heapA, if_pos rfl])]
      simpa [outCells] using hu
    · intro u hu
      simp only [outCells, List.mem_cons, List.not_mem_nil, or_false] at hu
      rcases hu with rfl | rfl <;> rfl
    intro v' w3 hrow3 hg3 hb3
    obtain ⟨g, cap, rfl⟩ := own_form hrow3
    have hne : Value.ownBlock (.slice va outs.length vc) ≠ some mb := row_other H3.out H1.out
    have hb : w3.heap[mb]? = some (.cells cs 79 (0, 0)) := by rw [hg3.block mb (by rw [szA]; omega) (fun e => hne e.symm), hE.block mb q3]; exact H1.out
    obtain ⟨p1, p2, p3⟩ := cells_of_heap hb
    refine kk g cap w3 ((p1 99).trans H2.out.outs) (p2 99) (Lib.hid ⟨⟨⟨_, _, by rw [heapS, if_pos rfl, hb]; rfl, H2.out.setOuts _, ?_⟩, hlow⟩, ⟨?_, fun k o hk hkm ho => ?_⟩⟩)
    · have h5 : w3.ownsRow base 43 2 (.slice g (outs.length + 1) cap) (outs ++ [(call, x)]).length ((outs ++ [(call, x)]).flatMap outCells) := by
        rw [List.length_append, List.flatMap_append]
        simpa [List.flatMap_cons] using hrow3
      refine own_keep h5 (fun q hq => ?_) (Nat.le_refl _)
      rw [heapS, if_neg]
      rintro rfl
      exact row_other h5 hb hq
    · have hb3 : Below base w w3 := by
        refine ⟨hg3.os, hg3.tape, hg3.output, ?_, fun k hk => ?_⟩
        · have := hg3.size; rw [szA] at this; omega
        · rw [hg3.block k (by rw [szA]; omega) (fun e => by have := (own_block H3.out e.symm).1; omega), hE.block k (by omega)]
      exact Below.setCell (p := ⟨mb, 99, none⟩) hb3 hlow _
    · rw [heapS, if_neg hkm, hg3.block k (by rw [szA]; have := heap_lt hk; omega) (fun e => ?_), hE.block k (heap_lt hk)]
      · exact hk
      · obtain ⟨cur, hcur⟩ := own_heap H3.out e.symm
        rw [hk] at hcur
        exact ho _ _ (Option.some.inj hcur)
  go_enter Tryz.func73, Tryz.ntmps73
  go_wp2_with (refine CONT rfl rfl rfl rfl ?_; intro g cap w3 hk3 hk4 HP)
  go_end0
  exact ⟨rfl, HP.out⟩

/-- How a part of the telling ends by panicking: at an end. -/
def Ended (mb base ub fuel : Nat) (w : World) (e : Ending) (w' : World) : Prop := ∃ (st code : Int) (outs : List (Int × Nat)) (used : Nat), e = .panicked [{ v := endV st code, recovered := false }] ∧ MAt w' mb base ub fuel outs used ∧ MFr base mb w w'

set_option maxRecDepth 100000 in
set_option maxHeartbeats 1600000 in
theorem spend_end {mb base ub fuel used : Nat} {outs : List (Int × Nat)} (w : World) (h : MAt w mb base ub fuel outs used) (_ : base ≤ w.heap.size) (hu : used = fuel) :
    Calls Tryz.prog 116 #[.pointer (some ⟨mb, 0, none⟩)] w fun e w' => e = .panicked [{ v := endV 1 0, recovered := false }] ∧ Ext w w' := by
  subst hu
  obtain ⟨v, hc, -, hs⟩ := h.cells
  have c98 := hc.c98
  have c103 := hc.c103
  clear hc h
  go_enter Tryz.func116, Tryz.ntmps116
  go_wp2
  go_quiet (fail)
  go_wp2
  exact ⟨rfl, rfl, (Ext.refl w).drewN _⟩
set_option maxRecDepth 100000 in
set_option maxHeartbeats 1600000 in
theorem spend_on {mb base ub fuel used : Nat} {outs : List (Int × Nat)} (w : World) (h : MAt w mb base ub fuel outs used) (hB : base ≤ w.heap.size) (hu : used < fuel) (hf : fuel ≤ 65536) :
    Calls Tryz.prog 116 #[.pointer (some ⟨mb, 0, none⟩)] w fun e w' => e = .returned (.tuple #[]) ∧ MAt w' mb base ub fuel outs (used + 1) ∧ MFr base mb w w' := by
  obtain ⟨v, hc, -, hs⟩ := h.cells
  have c98 := hc.c98
  have c103 := hc.c103
  have f103 := hc.fz 103
  have hlow := h.low
  have h2 := fun n => (h.ext ((Ext.refl w).drewN n)).setUsed (used + 1)
  have hne : ((used : Int) == (fuel : Int)) = false := by simp; omega
  have hw : IntKind.i64.wrap ((used : Int) + 1) = ((used + 1 : Nat) : Int) := by rw [show ((used : Int) + 1) = ((used + 1 : Nat) : Int) by omega]; exact IntWalk.i64_in _ (by omega)
  have H2 := Lib.hid h2
  clear hc h h2
  go_enter Tryz.func116, Tryz.ntmps116
  go_wp2
  go_quiet (fail)
  go_wp2
  go_end0
  exact ⟨rfl, H2.out _, (MFr.of_ext ((Ext.refl w).drewN _) hB).trans (setCell_fr hlow _)⟩

set_option maxRecDepth 100000 in
set_option maxHeartbeats 1600000 in
theorem halt_any {mb base ub fuel used : Nat} {outs : List (Int × Nat)} (x : Nat) (hx : x < 4294967296) (w : World) (h : MAt w mb base ub fuel outs used) (hB : base ≤ w.heap.size) (hlen : outs.length ≤ 70000) :
    Calls Tryz.prog 41 #[.pointer (some ⟨mb, 0, none⟩), .int .u32 (x : Int)] w fun e w' => e = .panicked [{ v := endV 3 (x : Int), recovered := false }] ∧ MAt w' mb base ub fuel (outs ++ [(1, x)]) used ∧ MFr base mb w w' := by
  have hout := out_any 1 x w h hB hlen
  have HO := Lib.hid hout
  have hw : IntKind.i64.wrap (x : Int) = (x : Int) := IntWalk.i64_in _ (by omega)
  clear hout h
  go_enter Tryz.func41, Tryz.ntmps41
  go_wp2_with fail
  refine HO.out.mono ?_
  rintro e w1 ⟨rfl, h1, h2⟩
  have H1 := Lib.hid h1
  have H2 := Lib.hid h2
  clear h1 h2
  go_wp2
  exact ⟨rfl, rfl, H1.out, H2.out⟩

set_option maxRecDepth 100000 in
theorem truth_any (b : Bool) (w : World) : Calls Tryz.prog 152 #[.bool b] w fun e w' => (∃ n : Nat, n < 4294967296 ∧ e = .returned (.int .u32 (n : Int))) ∧ w' = w := by
  cases b
  all_goals
    go_enter Tryz.func152, Tryz.ntmps152
    go_wp2
    go_ret
  · exact ⟨⟨0, by omega, rfl⟩, rfl⟩
  · exact ⟨⟨1, by omega, rfl⟩, rfl⟩
end Go.Proofs.YtgjgaeloehfhiaaGreatDoor
end
section
/- Operators; asking. -/
namespace Go.Proofs.YtgjgaeloehfhiaaGreatDoor
open Go.RowKit


theorem wrap32_range (z : Int) : 0 ≤ IntKind.u32.wrap z ∧ IntKind.u32.wrap z < 4294967296 := by rw [IntKind.wrap_u32]; omega
theorem nat32 {z : Int} (h : 0 ≤ z ∧ z < 4294967296) : ∃ n : Nat, n < 4294967296 ∧ z = (n : Int) := ⟨z.toNat, by omega, by omega⟩

theorem shr32 (l m : Nat) (h : l < 4294967296) : 0 ≤ (l : Int) / 2 ^ m ∧ (l : Int) / 2 ^ m < 4294967296 := by
  have h1 : (l : Int) / 2 ^ m = ((l / 2 ^ m : Nat) : Int) := by rw [Int.natCast_ediv, Int.natCast_pow]; rfl
  have h2 := Nat.div_le_self l (2 ^ m)
  rw [h1]
  clear h1
  generalize l / 2 ^ m = q at h2 ⊢
  omega
/-- What an operator gives. -/
def RkPost (text : List UInt8) (l r : Nat) (w : World) (e : Ending) (w' : World) : Prop :=
  (∃ n : Nat, n < 4294967296 ∧ e = .returned (.int .u32 (n : Int)) ∧ (text = [43] → n = (l + r) % 4294967296) ∧ (text = [42] → n = l * r % 4294967296)) ∧ w' = w
theorem RkPost.of {text : List UInt8} {l r : Nat} {w : World} {z : Int} (h : 0 ≤ z ∧ z < 4294967296) (h1 : text ≠ [43]) (h2 : text ≠ [42]) : RkPost text l r w (.returned (.int .u32 z)) w := by
  obtain ⟨n, hn, rfl⟩ := nat32 h
  exact ⟨⟨n, hn, rfl, fun e => absurd e h1, fun e => absurd e h2⟩, rfl⟩

set_option maxRecDepth 100000 in
set_option maxHeartbeats 6400000 in
theorem reckon_any (text : ByteArray) (l r : Nat) (hl : l < 4294967296) (_ : r < 4294967296) (w : World) :
    Calls Tryz.prog 169 #[.string text, .int .u32 (l : Int), .int .u32 (r : Int)] w (RkPost text.toList l r w) := by
  have ht := truth_any
  by_cases h0 : text.toList = [124]
  · have q0 : (text.toList == [124]) = true := by simpa using h0
    have n1 : text.toList ≠ [42] := by rw [h0]; decide
    have n2 : text.toList ≠ [43] := by rw [h0]; decide
    have HT := Lib.hid ht
    have N1 := Lib.hid n1
    have N2 := Lib.hid n2
    clear ht n1 h0 n2
    go_enter Tryz.func169, Tryz.ntmps169
    go_wp2_with fail
    go_ret
    exact RkPost.of (by first | exact wrap32_range _ | omega | exact shr32 _ _ hl) N2.out N1.out
  have q0 : (text.toList == [124]) = false := by simpa using h0
  by_cases h1 : text.toList = [94]
  · have q1 : (text.toList == [94]) = true := by simpa using h1
    have n1 : text.toList ≠ [42] := by rw [h1]; decide
    have n2 : text.toList ≠ [43] := by rw [h1]; decide
    have HT := Lib.hid ht
    have N1 := Lib.hid n1
    have N2 := Lib.hid n2
    clear ht n1 h1 n2
    go_enter Tryz.func169, Tryz.ntmps169
    go_wp2_with fail
    go_ret
    exact RkPost.of (by first | exact wrap32_range _ | omega | exact shr32 _ _ hl) N2.out N1.out
  have q1 : (text.toList == [94]) = false := by simpa using h1
  by_cases h2 : text.toList = [38]
  · have q2 : (text.toList == [38]) = true := by simpa using h2
    have n1 : text.toList ≠ [42] := by rw [h2]; decide
    have n2 : text.toList ≠ [43] := by rw [h2]; decide
    have HT := Lib.hid ht
    have N1 := Lib.hid n1
    have N2 := Lib.hid n2
    clear ht n1 h2 n2
    go_enter Tryz.func169, Tryz.ntmps169
    go_wp2_with fail
    go_ret
    exact RkPost.of (by first | exact wrap32_range _ | omega | exact shr32 _ _ hl) N2.out N1.out
  have q2 : (text.toList == [38]) = false := by simpa using h2
  by_cases h3 : text.toList = [61, 61]
  · have q3 : (text.toList == [61, 61]) = true := by simpa using h3
    have n1 : text.toList ≠ [42] := by rw [h3]; decide
    have n2 : text.toList ≠ [43] := by rw [h3]; decide
    have HT := Lib.hid ht
    have N1 := Lib.hid n1
    have N2 := Lib.hid n2
    clear ht n1 h3 n2
    go_enter Tryz.func169, Tryz.ntmps169
    go_wp2_with fail
    refine (HT.out _ _).mono ?_
    rintro e w1 ⟨⟨n, hn, rfl⟩, rfl⟩
    go_wp2_with fail
    go_ret
    exact RkPost.of ⟨by omega, by omega⟩ N2.out N1.out
  have q3 : (text.toList == [61, 61]) = false := by simpa using h3
  by_cases h4 : text.toList = [33, 61]
  · have q4 : (text.toList == [33, 61]) = true := by simpa using h4
    have n1 : text.toList ≠ [42] := by rw [h4]; decide
    have n2 : text.toList ≠ [43] := by rw [h4]; decide
    have HT := Lib.hid ht
    have N1 := Lib.hid n1
    have N2 := Lib.hid n2
    clear ht n1 h4 n2
    go_enter Tryz.func169, Tryz.ntmps169
    go_wp2_with fail
    refine (HT.out _ _).mono ?_
    rintro e w1 ⟨⟨n, hn, rfl⟩, rfl⟩
    go_wp2_with fail
    go_ret
    exact RkPost.of ⟨by omega, by omega⟩ N2.out N1.out
  have q4 : (text.toList == [33, 61]) = false := by simpa using h4
  by_cases h5 : text.toList = [60]
  · have q5 : (text.toList == [60]) = true := by simpa using h5
    have n1 : text.toList ≠ [42] := by rw [h5]; decide
    have n2 : text.toList ≠ [43] := by rw [h5]; decide
    have HT := Lib.hid ht
    have N1 := Lib.hid n1
    have N2 := Lib.hid n2
    clear ht n1 h5 n2
    go_enter Tryz.func169, Tryz.ntmps169
    go_wp2_with fail
    refine (HT.out _ _).mono ?_
    rintro e w1 ⟨⟨n, hn, rfl⟩, rfl⟩
    go_wp2_with fail
    go_ret
    exact RkPost.of ⟨by omega, by omega⟩ N2.out N1.out
  have q5 : (text.toList == [60]) = false := by simpa using h5
  by_cases h6 : text.toList = [60, 61]
  · have q6 : (text.toList == [60, 61]) = true := by simpa using h6
    have n1 : text.toList ≠ [42] := by rw [h6]; decide
    have n2 : text.toList ≠ [43] := by rw [h6]; decide
    have HT := Lib.hid ht
    have N1 := Lib.hid n1
    have N2 := Lib.hid n2
    clear ht n1 h6 n2
    go_enter Tryz.func169, Tryz.ntmps169
    go_wp2_with fail
    refine (HT.out _ _).mono ?_
    rintro e w1 ⟨⟨n, hn, rfl⟩, rfl⟩
    go_wp2_with fail
    go_ret
    exact RkPost.of ⟨by omega, by omega⟩ N2.out N1.out
  have q6 : (text.toList == [60, 61]) = false := by simpa using h6
  by_cases h7 : text.toList = [62]
  · have q7 : (text.toList == [62]) = true := by simpa using h7
    have n1 : text.toList ≠ [42] := by rw [h7]; decide
    have n2 : text.toList ≠ [43] := by rw [h7]; decide
    have HT := Lib.hid ht
    have N1 := Lib.hid n1
    have N2 := Lib.hid n2
    clear ht n1 h7 n2
    go_enter Tryz.func169, Tryz.ntmps169
    go_wp2_with fail
    refine (HT.out _ _).mono ?_
    rintro e w1 ⟨⟨n, hn, rfl⟩, rfl⟩
    go_wp2_with fail
    go_ret
    exact RkPost.of ⟨by omega, by omega⟩ N2.out N1.out
  have q7 : (text.toList == [62]) = false := by simpa using h7
  by_cases h8 : text.toList = [62, 61]
  · have q8 : (text.toList == [62, 61]) = true := by simpa using h8
    have n1 : text.toList ≠ [42] := by rw [h8]; decide
    have n2 : text.toList ≠ [43] := by rw [h8]; decide
    have HT := Lib.hid ht
    have N1 := Lib.hid n1
    have N2 := Lib.hid n2
    clear ht n1 h8 n2
    go_enter Tryz.func169, Tryz.ntmps169
    go_wp2_with fail
    refine (HT.out _ _).mono ?_
    rintro e w1 ⟨⟨n, hn, rfl⟩, rfl⟩
    go_wp2_with fail
    go_ret
    exact RkPost.of ⟨by omega, by omega⟩ N2.out N1.out
  have q8 : (text.toList == [62, 61]) = false := by simpa using h8
  by_cases h9 : text.toList = [60, 60]
  · have q9 : (text.toList == [60, 60]) = true := by simpa using h9
    have n1 : text.toList ≠ [42] := by rw [h9]; decide
    have n2 : text.toList ≠ [43] := by rw [h9]; decide
    have HT := Lib.hid ht
    have N1 := Lib.hid n1
    have N2 := Lib.hid n2
    clear ht n1 h9 n2
    go_enter Tryz.func169, Tryz.ntmps169
    go_wp2_with fail
    go_ret
    exact RkPost.of (by first | exact wrap32_range _ | omega | exact shr32 _ _ hl) N2.out N1.out
  have q9 : (text.toList == [60, 60]) = false := by simpa using h9
  by_cases h10 : text.toList = [62, 62]
  · have q10 : (text.toList == [62, 62]) = true := by simpa using h10
    have n1 : text.toList ≠ [42] := by rw [h10]; decide
    have n2 : text.toList ≠ [43] := by rw [h10]; decide
    have HT := Lib.hid ht
    have N1 := Lib.hid n1
    have N2 := Lib.hid n2
    clear ht n1 h10 n2
    go_enter Tryz.func169, Tryz.ntmps169
    go_wp2_with fail
    go_ret
    exact RkPost.of (by first | exact wrap32_range _ | omega | exact shr32 _ _ hl) N2.out N1.out
  have q10 : (text.toList == [62, 62]) = false := by simpa using h10
  by_cases h11 : text.toList = [43]
  · have q11 : (text.toList == [43]) = true := by simpa using h11
    have n1 : text.toList ≠ [42] := by rw [h11]; decide
    have HT := Lib.hid ht
    have N1 := Lib.hid n1
    have N2 := Lib.hid h11
    clear ht n1 h11
    go_enter Tryz.func169, Tryz.ntmps169
    go_wp2_with fail
    go_ret
    refine ⟨⟨(l + r) % 4294967296, by omega, ?_, fun _ => rfl, fun e => absurd e N1.out⟩, rfl⟩
    exact ret_int (a := ((l : Int) + (r : Int)) % 4294967296) (by omega)
  have q11 : (text.toList == [43]) = false := by simpa using h11
  by_cases h12 : text.toList = [45]
  · have q12 : (text.toList == [45]) = true := by simpa using h12
    have n1 : text.toList ≠ [42] := by rw [h12]; decide
    have n2 : text.toList ≠ [43] := by rw [h12]; decide
    have HT := Lib.hid ht
    have N1 := Lib.hid n1
    have N2 := Lib.hid n2
    clear ht n1 h12 n2
    go_enter Tryz.func169, Tryz.ntmps169
    go_wp2_with fail
    go_ret
    exact RkPost.of (by first | exact wrap32_range _ | omega | exact shr32 _ _ hl) N2.out N1.out
  have q12 : (text.toList == [45]) = false := by simpa using h12
  have N2 := Lib.hid h11
  clear ht h0 h1 h2 h3 h4 h5 h6 h7 h8 h9 h10 h11 h12
  go_enter Tryz.func169, Tryz.ntmps169
  go_wp2_with fail
  go_ret
  refine ⟨⟨l * r % 4294967296, Nat.mod_lt _ (by omega), ?_, fun e => absurd e N2.out, fun _ => rfl⟩, rfl⟩
  exact ret_int (a := ((l : Int) * (r : Int)) % 4294967296) (by rw [Int.natCast_emod, Int.natCast_mul]; rfl)

set_option maxRecDepth 100000 in
set_option maxHeartbeats 1600000 in
theorem ask_on {mb base ub fuel used : Nat} {outs : List (Int × Nat)} (w : World) (h : MAt w mb base ub fuel outs used) (hB : base ≤ w.heap.size) (hu : used < fuel) (hf : fuel ≤ 65536) (hlen : outs.length ≤ 70000) :
    Calls Tryz.prog 151 #[.pointer (some ⟨mb, 0, none⟩)] w fun e w' => e = .returned (.int .u32 0) ∧ MAt w' mb base ub fuel (outs ++ [(24, 0)]) (used + 1) ∧ MFr base mb w w' := by
  have hsp := spend_on w h hB hu hf
  have HSP := Lib.hid hsp
  have hlow := h.low
  clear hsp h
  go_enter Tryz.func151, Tryz.ntmps151
  go_wp2_with fail
  refine HSP.out.mono ?_
  rintro e w1 ⟨rfl, h1, h2⟩
  obtain ⟨v, hc, -, hs⟩ := h1.cells
  have c97 := hc.c97
  have c102 := hc.c102
  have x1 := h2.below.size
  have H1 := Lib.hid h1
  have H2 := Lib.hid h2
  clear hc h1 h2
  go_wp2_with fail
  go_quiet (fail)
  go_wp2_with fail
  refine (out_any 24 0 _ (H1.out.ext ((Ext.refl w1).drewN _)) (by rw [szN]; omega) hlen).mono ?_
  rintro e w2 ⟨rfl, h3, h4⟩
  have H3 := Lib.hid h3
  have H4 := Lib.hid ((H2.out.trans (MFr.of_ext ((Ext.refl w1).drewN _) (by omega))).trans h4)
  clear h3 h4
  go_wp2_with fail
  go_ret
  exact ⟨rfl, H3.out, H4.out⟩
set_option maxRecDepth 100000 in
set_option maxHeartbeats 1600000 in
theorem ask_end {mb base ub fuel used : Nat} {outs : List (Int × Nat)} (w : World) (h : MAt w mb base ub fuel outs used) (hB : base ≤ w.heap.size) (hu : used = fuel) :
    Calls Tryz.prog 151 #[.pointer (some ⟨mb, 0, none⟩)] w fun e w' => e = .panicked [{ v := endV 1 0, recovered := false }] ∧ Ext w w' := by
  have hsp := spend_end w h hB hu
  have HSP := Lib.hid hsp
  clear hsp h
  go_enter Tryz.func151, Tryz.ntmps151
  go_wp2_with fail
  refine HSP.out.mono ?_
  rintro e w1 ⟨rfl, h1⟩
  exact ⟨rfl, rfl, h1⟩
end Go.Proofs.YtgjgaeloehfhiaaGreatDoor
end
