/- What the machine's deferred function does. -/
import Derived.Test.YtgjgaeloehfhiaaGreatDoorM11
import Derived.Outline
import Derived.Defers
import Derived.Recover
import Derived.Laws.Pointers
import Derived.Test.YtgjgaeloehfhiaaGreatDoorM02
section
namespace Go.Proofs.YtgjgaeloehfhiaaGreatDoor
open Go.RowKit

theorem run_assert123 (a b : Int) (w : World) : (Instr.typeAssert (.iface 123 (.agg #[.int .i64 a, .int .i64 b])) 20 123 true).run Tryz.prog w = .ok (.tuple #[.agg #[.int .i64 a, .int .i64 b], .bool true]) w := by kernel_rfl

set_option maxRecDepth 100000 in
set_option maxHeartbeats 1600000 in
theorem end_catch (mb pb qb : Nat) (hpm : pb ≠ mb) (hqm : qb ≠ mb) (hpq : pb ≠ qb) (ub fuel used : Nat) (va : Option Addr) (vn vc : Nat) (x0 x1 x2 x3 x4 : Value) (cs : Array Value) (st code : Int) (w : World) (hm : w.heap[mb]? = some (.cells cs 79 (0, 0))) (hcs : MCs cs ub fuel (.slice va vn vc) used)
    (hp : w.heap[pb]? = some (.cells #[.pointer (some ⟨mb, 0, none⟩)] 76 (0, 0))) (hq : w.heap[qb]? = some (.cells #[x0, x1, x2, x3, x4] 31 (0, 0))) :
    CallsD Tryz.prog 39 #[.pointer (some ⟨pb, 0, none⟩), .pointer (some ⟨qb, 0, none⟩)] (.panicking [{ v := endV st code, recovered := false }]) w fun e u' w' =>
      e = .returned (.tuple #[]) ∧ u' = .panicking [{ v := endV st code, recovered := true }] ∧ w'.heap[qb]? = some (.cells #[.slice va vn vc, .int .i64 st, .int .i64 code, .int .i64 0, .int .i64 (used : Int)] 31 (0, 0)) ∧
        (∀ k, k < w.heap.size → k ≠ mb → k ≠ qb → w'.heap[k]? = w.heap[k]?) ∧ w.heap.size ≤ w'.heap.size ∧ w'.os = w.os ∧ w'.tape = w.tape ∧ w'.output = w.output := by
  obtain ⟨m0, m1, m2⟩ := cells_of_heap hm
  obtain ⟨hp0, hp1, hp2⟩ := cells_of_heap hp
  obtain ⟨hq0, hq1, hq2⟩ := cells_of_heap hq
  have p0 := hp0 0
  have q0 := hq0 0
  have q1 := hq0 1
  have q2 := hq0 2
  have q3 := hq0 3
  have q4 := hq0 4
  have fq0 := hq1 0
  have fq1 := hq1 1
  have fq2 := hq1 2
  have fq3 := hq1 3
  have fq4 := hq1 4
  simp only [List.getElem?_toArray, List.getElem?_cons_zero, List.getElem?_cons_succ] at p0 q0 q1 q2 q3 q4
  have c99 := (m0 99).trans hcs.outs
  have c100 := (m0 100).trans hcs.state
  have c101 := (m0 101).trans hcs.code
  have c102 := (m0 102).trans hcs.taken
  have c103 := (m0 103).trans hcs.used
  have f100 := m1 100
  have f101 := m1 101
  have hta := run_assert123
  have n1 : w.heap.size ≠ pb := by omega
  have n2 : w.heap.size ≠ qb := by omega
  have n3 : w.heap.size ≠ mb := by omega
  have n4 := n1.symm
  have n5 := n2.symm
  have n6 := n3.symm
  have n7 := hpm.symm
  have n8 := hqm.symm
  have n9 := hpq.symm
  have HM := Lib.hid hm
  have HCS := Lib.hid hcs
  have HP := Lib.hid hp
  have HQ := Lib.hid hq
  clear hm hp hq m0 m1 hp0 hp1 hq0 hq1 hcs
  refine callsD_of_wpS Tryz.func39 rfl fun c₀ cs' hu => ?_
  apply wpS_seq
  apply wpS_region
  simp [wpOpsS, go_sem, recoverD, hu, Tryz.ntmps39, Exit.thenS]
  refine wpS_of_wp ?_
  have harr : (#[Value.pointer (some ⟨pb, 0, none⟩), Value.pointer (some ⟨qb, 0, none⟩)] ++ ((Array.replicate 28 undef).setIfInBounds 3 (endV st code)).setIfInBounds 0 (endV st code)) = (#[.pointer (some ⟨pb, 0, none⟩), .pointer (some ⟨qb, 0, none⟩), endV st code, undef, undef, endV st code, undef, undef, undef, undef, undef, undef, undef, undef, undef, undef, undef, undef, undef, undef, undef, undef, undef, undef, undef, undef, undef, undef, undef, undef] : Array Value) := by kernel_rfl
  rw [harr]
  unfold endV at *
  go_wp2
  go_region
  have e1 : ((((w.setCell ⟨mb, 100, none⟩ (.int .i64 st)).setCell ⟨mb, 101, none⟩ (.int .i64 code)).alloc (.cells #[.int .i64 st, .int .i64 code] 123)).drew).heap[mb]? = some (.cells ((cs.setIfInBounds 100 (.int .i64 st)).setIfInBounds 101 (.int .i64 code)) 79 (0, 0)) := by
    rw [heapD, heapA, if_neg (by simp only [szS]; omega), heapS, if_pos rfl, heapS, if_pos rfl, HM.out]; rfl
  have e2 : ∀ k, k < w.heap.size → k ≠ mb → ((((w.setCell ⟨mb, 100, none⟩ (.int .i64 st)).setCell ⟨mb, 101, none⟩ (.int .i64 code)).alloc (.cells #[.int .i64 st, .int .i64 code] 123)).drew).heap[k]? = w.heap[k]? := fun k hk h1 => by
    rw [heapD, heapA, if_neg (by simp only [szS]; omega), heapS, if_neg h1, heapS, if_neg h1]
  have e3 : ((((w.setCell ⟨mb, 100, none⟩ (.int .i64 st)).setCell ⟨mb, 101, none⟩ (.int .i64 code)).alloc (.cells #[.int .i64 st, .int .i64 code] 123)).drew).heap.size = w.heap.size + 1 := by simp only [szD, szA, szS]
  have e4 : ((((w.setCell ⟨mb, 100, none⟩ (.int .i64 st)).setCell ⟨mb, 101, none⟩ (.int .i64 code)).alloc (.cells #[.int .i64 st, .int .i64 code] 123)).drew).os = w.os ∧ ((((w.setCell ⟨mb, 100, none⟩ (.int .i64 st)).setCell ⟨mb, 101, none⟩ (.int .i64 code)).alloc (.cells #[.int .i64 st, .int .i64 code] 123)).drew).tape = w.tape ∧ ((((w.setCell ⟨mb, 100, none⟩ (.int .i64 st)).setCell ⟨mb, 101, none⟩ (.int .i64 code)).alloc (.cells #[.int .i64 st, .int .i64 code] 123)).drew).output = w.output := ⟨rfl, rfl, rfl⟩
  generalize ((((w.setCell ⟨mb, 100, none⟩ (.int .i64 st)).setCell ⟨mb, 101, none⟩ (.int .i64 code)).alloc (.cells #[.int .i64 st, .int .i64 code] 123)).drew) = w2 at *
  have hp' := (e2 pb hp2 hpm).trans HP.out
  have hq' := (e2 qb hq2 hqm).trans HQ.out
  clear p0 q0 q1 q2 q3 q4 c99 c100 c101 c102 c103 f100 f101 fq0 fq1 fq2 fq3 fq4
  obtain ⟨m0, m1, m2⟩ := cells_of_heap e1
  obtain ⟨hp0, hp1, hp2'⟩ := cells_of_heap hp'
  obtain ⟨hq0, hq1, hq2'⟩ := cells_of_heap hq'
  have hz := HCS.out.size
  have p0 := hp0 0
  simp only [List.getElem?_toArray, List.getElem?_cons_zero] at p0
  have fq0 := hq1 0
  have fq1 := hq1 1
  have fq2 := hq1 2
  have fq3 := hq1 3
  have fq4 := hq1 4
  have q0 := hq0 0
  have q1 := hq0 1
  have q2 := hq0 2
  have q3 := hq0 3
  have q4 := hq0 4
  simp only [List.getElem?_toArray, List.getElem?_cons_zero, List.getElem?_cons_succ] at q0 q1 q2 q3 q4
  have c99 : w2.cell? ⟨mb, 99, none⟩ = some (.slice va vn vc) := (m0 99).trans (by rw [Array.getElem?_setIfInBounds_ne (by omega), Array.getElem?_setIfInBounds_ne (by omega)]; exact HCS.out.outs)
  have c100 : w2.cell? ⟨mb, 100, none⟩ = some (.int .i64 st) := (m0 100).trans (by rw [Array.getElem?_setIfInBounds_ne (by omega), Array.getElem?_setIfInBounds, if_pos rfl, if_pos (by omega)])
  have c101 : w2.cell? ⟨mb, 101, none⟩ = some (.int .i64 code) := (m0 101).trans (by rw [Array.getElem?_setIfInBounds, if_pos rfl, if_pos (by simp; omega)])
  have c102 : w2.cell? ⟨mb, 102, none⟩ = some (.int .i64 0) := (m0 102).trans (by rw [Array.getElem?_setIfInBounds_ne (by omega), Array.getElem?_setIfInBounds_ne (by omega)]; exact HCS.out.taken)
  have c103 : w2.cell? ⟨mb, 103, none⟩ = some (.int .i64 (used : Int)) := (m0 103).trans (by rw [Array.getElem?_setIfInBounds_ne (by omega), Array.getElem?_setIfInBounds_ne (by omega)]; exact HCS.out.used)
  have HE2 := Lib.hid e2
  have HQ2 := Lib.hid hq'
  have HE4 := Lib.hid e4
  clear e1 e2 e4 hp' hq' m0 m1 hp0 hp1 hq0 hq1 HP HQ HM HCS
  go_wp2
  refine ⟨rfl, _, rfl, .tuple #[], by simp [results, Tryz.results39, go_sem], rfl, rfl, ?_, ?_, ?_, HE4.out.1, HE4.out.2.1, HE4.out.2.2⟩
  · simp only [heapS, if_true, HQ2.out]; rfl
  · intro k hk h1 h2
    simp only [heapS, if_neg h2]
    exact HE2.out k hk h1
  · simp only [szS]; omega
end Go.Proofs.YtgjgaeloehfhiaaGreatDoor
end
section
/- As wp_region_plan, S being kept by the last operation too. -/
namespace Go.Proofs.YtgjgaeloehfhiaaGreatDoor
open Go.RowKit

def planOKS (md : Region.Mode) (ops : Array Oper) : List (Nat × Bool) → Array Bool → Bool
  | [], listed => (Region.ready md ops listed).isEmpty
  | (i, true) :: l, listed => (Region.ready md ops listed).contains i && Region.free md ops listed i && planOKS md ops l (listed.setIfInBounds i true)
  | (i, false) :: l, listed => (Region.ready md ops listed == [i]) && planOKS md ops l (listed.setIfInBounds i true)

def wpPlanS (P : Program) (ops : Array Oper) (Q : Exit → Act → World → Prop) (S : World → Prop) : List (Nat × Bool) → Act → World → Prop
  | [], a, w => Q .normal a w
  | (i, true) :: l, a, w => ∃ o v, ops[i]? = some o ∧ YieldsIf P ops S o v a ∧ wpPlanS P ops Q S l (a.put o.dst v) w
  | (i, false) :: l, a, w => wpOp P ops Q i (fun a' w' => S w' ∧ wpPlanS P ops Q S l a' w') a w

theorem wpAnyE_of_planS {P : Program} {ops : Array Oper} {Q : Exit → Act → World → Prop} {md : Region.Mode} {S : World → Prop}
    (hs : Region.noSelect ops = true) (hQ : ∀ c a d v w, Q (.panic c) (a.put d v) w → Q (.panic c) a w) :
    ∀ (l : List (Nat × Bool)) (fuel : Nat) (listed : Array Bool) (a : Act) (w : World), l.length ≤ fuel → planOKS md ops l listed = true → Listed md ops listed → S w →
      wpPlanS P ops Q S l a w → wpAnyE P md ops Q S fuel listed a w := by
  intro l
  induction l with
  | nil =>
    intro fuel listed a w _ hp _ _ h
    have hr : Region.ready md ops listed = [] := by simpa [planOKS] using hp
    have h' : Q .normal a w := h
    cases fuel with
    | zero => exact ⟨hr, h'⟩
    | succ n => exact ⟨fun _ => h', by rw [hr]; simp⟩
  | cons x l ih =>
    obtain ⟨i, b⟩ := x
    intro fuel listed a w hf hp hL hS h
    obtain ⟨fuel, rfl⟩ : ∃ m, fuel = m + 1 := ⟨fuel - 1, by simp at hf; omega⟩
    simp only [List.length_cons] at hf
    cases b with
    | true =>
      simp only [planOKS, Bool.and_eq_true] at hp
      obtain ⟨⟨h1, h2⟩, h3⟩ := hp
      obtain ⟨o, v, ho, hy, h⟩ := h
      exact wpAnyE_first ho hs (fun c a w => hQ c a _ _ w) fuel listed a w h2 hL (by simpa using h1) hy hS (ih fuel _ _ _ (by omega) h3 (hL.set (by simpa using h1)) hS h)
    | false =>
      simp only [planOKS, Bool.and_eq_true, beq_iff_eq] at hp
      obtain ⟨h1, h3⟩ := hp
      refine ⟨fun h0 => (by rw [h1] at h0; cases h0), fun j hj => ?_⟩
      rw [h1] at hj
      simp only [List.mem_singleton] at hj
      subst hj
      exact wpOp_mono (fun a' w' hh => ⟨fun _ => hh.1, ih fuel _ _ _ (by omega) h3 (hL.set (by rw [h1]; simp)) hh.1 hh.2⟩) h

theorem wp_region_planS {P : Program} {id : Nat} {ops : Array Oper} {Q : Exit → Act → World → Prop} {a : Act} {w : World} (S : World → Prop) (plan : List (Nat × Bool))
    (hm : P.follows .mixedOrders = true) (hp : (Region.noSelect ops && decide (plan.length ≤ ops.size) && planOKS .any ops plan (Array.replicate ops.size false)) = true)
    (hQ : ∀ c a d v w, Q (.panic c) (a.put d v) w → Q (.panic c) a w) (hS : S w.drew) (h : wpPlanS P ops Q S plan a w.drew) : (Code.region id ops true).wp P Q a w := by
  simp only [Bool.and_eq_true, decide_eq_true_eq] at hp
  exact wp_region_any hm (wpAny_of_E _ _ _ _ (wpAnyE_of_planS hp.1.1 hQ plan _ _ a _ hp.1.2 hp.2 (fun k hk => by simp [Array.getElem?_replicate] at hk; split at hk <;> simp at hk) hS h))

theorem wpPlanS_act {P : Program} {ops : Array Oper} {Q : Exit → Act → World → Prop} {S : World → Prop} {i : Nat} {l : List (Nat × Bool)} {a : Act} {w : World} {o : Oper}
    (ho : ops[i]? = some o) (hw : Region.wanted o (yielded ops a.tmps) = true) (h : ∀ K : Act → World → Prop, (∀ a' w', S w' → wpPlanS P ops Q S l a' w' → K a' w') → o.wp P a w K Q) :
    wpPlanS P ops Q S ((i, false) :: l) a w := by
  show wpOp P ops Q i _ a w
  unfold wpOp
  simp only [ho]
  rw [if_pos hw]
  exact .inl (h _ fun a' w' h1 h2 => ⟨h1, h2⟩)
/-- An operation that is passed over: its guard says no. -/
theorem wpPlanS_pass {P : Program} {ops : Array Oper} {Q : Exit → Act → World → Prop} {S : World → Prop} {i : Nat} {l : List (Nat × Bool)} {a : Act} {w : World} {o : Oper}
    (ho : ops[i]? = some o) (hw : Region.wanted o (yielded ops a.tmps) = false) (hS : S w) (h : wpPlanS P ops Q S l (a.put o.dst undef) w) :
    wpPlanS P ops Q S ((i, false) :: l) a w := by
  show wpOp P ops Q i _ a w
  unfold wpOp
  simp only [ho]
  rw [if_neg (by rw [hw]; simp)]
  exact ⟨hS, h⟩
end Go.Proofs.YtgjgaeloehfhiaaGreatDoor
end
