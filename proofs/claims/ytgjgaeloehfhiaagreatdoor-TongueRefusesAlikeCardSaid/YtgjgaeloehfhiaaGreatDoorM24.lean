/- A drawn region inside a function that defers: the plan's readers must not write the results' slots. -/
import Derived.Test.YtgjgaeloehfhiaaGreatDoorM23
namespace Go.Proofs.YtgjgaeloehfhiaaGreatDoor
open Go.RowKit

theorem wpAnyE_of_plan2 {P : Program} {ops : Array Oper} {Q : Exit → Act → World → Prop} {md : Region.Mode} {S : World → Prop} {ends : Bool}
    (hs : Region.noSelect ops = true) :
    ∀ (l : List (Nat × Bool)) (fuel : Nat) (listed : Array Bool) (a : Act) (w : World), (∀ i o, (i, true) ∈ l → ops[i]? = some o → ∀ c a v w, Q (.panic c) (a.put o.dst v) w → Q (.panic c) a w) →
      l.length ≤ fuel → planOK md ops ends l listed = true → Listed md ops listed → (l ≠ [] → S w) →
      wpPlan P ops ends Q S l a w → wpAnyE P md ops Q S fuel listed a w := by
  intro l
  induction l with
  | nil =>
    intro fuel listed a w _ _ hp _ _ h
    obtain ⟨he, h⟩ := h
    subst he
    have hr : Region.ready md ops listed = [] := by simpa [planOK] using hp
    cases fuel with
    | zero => exact ⟨hr, h⟩
    | succ n => exact ⟨fun _ => h, by rw [hr]; simp⟩
  | cons x l ih =>
    obtain ⟨i, b⟩ := x
    intro fuel listed a w hQ hf hp hL hS h
    have hS2 := hS (by simp)
    have hQ2 := fun i o hi => hQ i o (List.mem_cons_of_mem _ hi)
    obtain ⟨fuel, rfl⟩ : ∃ m, fuel = m + 1 := ⟨fuel - 1, by simp at hf; omega⟩
    simp only [List.length_cons] at hf
    cases b with
    | true =>
      simp only [planOK, Bool.and_eq_true] at hp
      obtain ⟨⟨h1, h2⟩, h3⟩ := hp
      obtain ⟨o, v, ho, hy, h⟩ := h
      exact wpAnyE_first ho hs (fun c a w => hQ i o (by simp) ho c a v w) fuel listed a w h2 hL (by simpa using h1) hy hS2 (ih fuel _ _ _ hQ2 (by omega) h3 (hL.set (by simpa using h1)) (fun _ => hS2) h)
    | false =>
      simp only [planOK, Bool.and_eq_true, beq_iff_eq] at hp
      obtain ⟨⟨h1, h2⟩, h3⟩ := hp
      refine ⟨fun h0 => (by rw [h1] at h0; cases h0), fun j hj => ?_⟩
      rw [h1] at hj
      simp only [List.mem_singleton] at hj
      subst hj
      refine wpOp_mono (fun a' w' hh => ⟨fun hc => ?_, ih fuel _ _ _ hQ2 (by omega) h3 (hL.set (by rw [h1]; simp)) hh.1 hh.2⟩) h
      rw [hc] at h2
      by_cases hl : l = []
      · subst hl
        have he : ends = true := hh.2.1
        subst he
        simp at h2
      · exact hh.1 hl

theorem wp_region_plan2 {P : Program} {id : Nat} {ops : Array Oper} {Q : Exit → Act → World → Prop} {a : Act} {w : World} (S : World → Prop) (plan : List (Nat × Bool)) (ends : Bool)
    (hm : P.follows .mixedOrders = true) (hp : (Region.noSelect ops && decide (plan.length ≤ ops.size) && planOK .any ops ends plan (Array.replicate ops.size false)) = true)
    (hQ : ∀ i o, (i, true) ∈ plan → ops[i]? = some o → ∀ c a v w, Q (.panic c) (a.put o.dst v) w → Q (.panic c) a w) (hS : S w.drew) (h : wpPlan P ops ends Q S plan a w.drew) : (Code.region id ops true).wp P Q a w := by
  simp only [Bool.and_eq_true, decide_eq_true_eq] at hp
  exact wp_region_any hm (wpAny_of_E _ _ _ _ (wpAnyE_of_plan2 hp.1.1 plan _ _ a _ hQ hp.1.2 hp.2 (fun k hk => by simp [Array.getElem?_replicate] at hk; split at hk <;> simp at hk) (fun _ => hS) h))

/-- What is behind the door looks at the results' slots alone. -/
theorem leaves_congr {P : Program} {fn : Func} {t t' : Array Value} {R : Ending → World → Prop} (h : results fn t = results fn t') : ∀ (ds : List Deferred) (u : FrameMode) (w : World), Leaves P fn t R ds u w → Leaves P fn t' R ds u w
  | [], .returning, w, ⟨v, h1, h2⟩ => ⟨v, h ▸ h1, h2⟩
  | [], .panicking _, w, hl => hl
  | d :: ds, u, w, ⟨h1, fv, cap, f, args, h2, h3, h4⟩ => ⟨h1, fv, cap, f, args, h2, h3, h4.mono fun e u' w' he => by
      cases e with
      | returned v => exact leaves_congr h ds _ _ he
      | panicked c => exact leaves_congr h ds _ _ he
      | outgrown => exact he⟩

theorem results24_put (a : Act) (d : Nat) (v : Value) (h2 : d ≠ 2) (h3 : d ≠ 3) : results Tryz.f24 (a.put (some d) v).tmps = results Tryz.f24 a.tmps := by
  have e2 : (a.tmps.setIfInBounds d v)[2]? = a.tmps[2]? := by rw [Array.getElem?_setIfInBounds_ne h2]
  have e3 : (a.tmps.setIfInBounds d v)[3]? = a.tmps[3]? := by rw [Array.getElem?_setIfInBounds_ne h3]
  simp [results, Tryz.results24, Act.put, e2, e3]

theorem door_put {R : Ending → World → Prop} {c : List PanicEntry} {a : Act} {w : World} {d : Option Nat} {v : Value} (hd : d ≠ some 2 ∧ d ≠ some 3) (h : bodyPostD Tryz.prog Tryz.f24 R (.panic c) (a.put d v) w) : bodyPostD Tryz.prog Tryz.f24 R (.panic c) a w := by
  cases d with
  | none => exact h
  | some d => exact leaves_congr (results24_put a d v (fun e => hd.1 (by rw [e])) (fun e => hd.2 (by rw [e]))) _ _ _ h
/-- The plan's readers write none of the results' slots. -/
theorem plan_dsts {ops : Array Oper} {plan : List (Nat × Bool)} (h : (plan.all fun p => match ops[p.1]? with
    | some o => !(o.dst == some 2) && !(o.dst == some 3)
    | none => true) = true) : ∀ i o, (i, true) ∈ plan → ops[i]? = some o → o.dst ≠ some 2 ∧ o.dst ≠ some 3 := by
  intro i o hi ho
  have h1 := List.all_eq_true.1 h _ hi
  simp only [ho] at h1
  simpa using h1
end Go.Proofs.YtgjgaeloehfhiaaGreatDoor
