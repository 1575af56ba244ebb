/- The machine runs. -/
import Derived.Test.YtgjgaeloehfhiaaGreatDoorM40
import Derived.Test.YtgjgaeloehfhiaaGreatDoorM41
import Derived.Test.YtgjgaeloehfhiaaGreatDoorM24
import Derived.Test.YtgjgaeloehfhiaaGreatDoorM33
import Derived.Test.YtgjgaeloehfhiaaGreatDoorM34
import Derived.Test.YtgjgaeloehfhiaaGreatDoorM36
section
namespace Go.Proofs.YtgjgaeloehfhiaaGreatDoor
open Go.RowKit

/- As wp_region_plan2, S being kept by the last operation too. -/
theorem wpAnyE_of_planS2 {P : Program} {ops : Array Oper} {Q : Exit → Act → World → Prop} {md : Region.Mode} {S : World → Prop}
    (hs : Region.noSelect ops = true) :
    ∀ (l : List (Nat × Bool)) (fuel : Nat) (listed : Array Bool) (a : Act) (w : World), (∀ i o, (i, true) ∈ l → ops[i]? = some o → ∀ c a v w, Q (.panic c) (a.put o.dst v) w → Q (.panic c) a w) →
      l.length ≤ fuel → planOKS md ops l listed = true → Listed md ops listed → S w → wpPlanS P ops Q S l a w → wpAnyE P md ops Q S fuel listed a w := by
  intro l
  induction l with
  | nil =>
    intro fuel listed a w _ _ hp _ _ h
    have hr : Region.ready md ops listed = [] := by simpa [planOKS] using hp
    have h' : Q .normal a w := h
    cases fuel with
    | zero => exact ⟨hr, h'⟩
    | succ n => exact ⟨fun _ => h', by rw [hr]; simp⟩
  | cons x l ih =>
    obtain ⟨i, b⟩ := x
    intro fuel listed a w hQ hf hp hL hS h
    have hQ2 := fun i o hi => hQ i o (List.mem_cons_of_mem _ hi)
    obtain ⟨fuel, rfl⟩ : ∃ m, fuel = m + 1 := ⟨fuel - 1, by simp at hf; omega⟩
    simp only [List.length_cons] at hf
    cases b with
    | true =>
      simp only [planOKS, Bool.and_eq_true] at hp
      obtain ⟨⟨h1, h2⟩, h3⟩ := hp
      obtain ⟨o, v, ho, hy, h⟩ := h
      exact wpAnyE_first ho hs (fun c a w => hQ i o (by simp) ho c a v w) fuel listed a w h2 hL (by simpa using h1) hy hS (ih fuel _ _ _ hQ2 (by omega) h3 (hL.set (by simpa using h1)) hS h)
    | false =>
      simp only [planOKS, Bool.and_eq_true, beq_iff_eq] at hp
      obtain ⟨h1, h3⟩ := hp
      refine ⟨fun h0 => (by rw [h1] at h0; cases h0), fun j hj => ?_⟩
      rw [h1] at hj
      simp only [List.mem_singleton] at hj
      subst hj
      exact wpOp_mono (fun a' w' hh => ⟨fun _ => hh.1, ih fuel _ _ _ hQ2 (by omega) h3 (hL.set (by rw [h1]; simp)) hh.1 hh.2⟩) h
theorem wp_region_planS2 {P : Program} {id : Nat} {ops : Array Oper} {Q : Exit → Act → World → Prop} {a : Act} {w : World} (S : World → Prop) (plan : List (Nat × Bool))
    (hm : P.follows .mixedOrders = true) (hp : (Region.noSelect ops && decide (plan.length ≤ ops.size) && planOKS .any ops plan (Array.replicate ops.size false)) = true)
    (hQ : ∀ i o, (i, true) ∈ plan → ops[i]? = some o → ∀ c a v w, Q (.panic c) (a.put o.dst v) w → Q (.panic c) a w) (hS : S w.drew) (h : wpPlanS P ops Q S plan a w.drew) : (Code.region id ops true).wp P Q a w := by
  simp only [Bool.and_eq_true, decide_eq_true_eq] at hp
  exact wp_region_any hm (wpAny_of_E _ _ _ _ (wpAnyE_of_planS2 hp.1.1 plan _ _ a _ hQ hp.1.2 hp.2 (fun k hk => by simp [Array.getElem?_replicate] at hk; split at hk <;> simp at hk) hS h))

theorem results20_put (a : Act) (d : Nat) (v : Value) (h2 : d ≠ 2) : results Tryz.f20 (a.put (some d) v).tmps = results Tryz.f20 a.tmps := by
  have e2 : (a.tmps.setIfInBounds d v)[2]? = a.tmps[2]? := by rw [Array.getElem?_setIfInBounds_ne h2]
  simp [results, Tryz.results20, Act.put, e2]
theorem door20_put {R : Ending → World → Prop} {c : List PanicEntry} {a : Act} {w : World} {d : Option Nat} {v : Value} (hd : d ≠ some 2) (h : bodyPostD Tryz.prog Tryz.f20 R (.panic c) (a.put d v) w) : bodyPostD Tryz.prog Tryz.f20 R (.panic c) a w := by
  cases d with
  | none => exact h
  | some d => exact leaves_congr (results20_put a d v (fun e => hd (by rw [e]))) _ _ _ h
theorem plan20_dsts {ops : Array Oper} {plan : List (Nat × Bool)} (h : (plan.all fun p => match ops[p.1]? with
    | some o => !(o.dst == some 2)
    | none => true) = true) : ∀ i o, (i, true) ∈ plan → ops[i]? = some o → o.dst ≠ some 2 := by
  intro i o hi ho
  have h1 := List.all_eq_true.1 h _ hi
  simp only [ho] at h1
  simpa using h1
theorem results20_run {tmps : Array Value} {Q : Nat} {x0 x1 x2 x3 x4 : Value} {w : World} (h2 : tmps[2]? = some (.pointer (some ⟨Q, 0, none⟩)))
    (hq : w.heap[Q]? = some (.cells #[x0, x1, x2, x3, x4] 31 (0, 0))) : (results Tryz.f20 tmps).run Tryz.prog w = .ok (.agg #[x0, x1, x2, x3, x4]) w := by
  have c0 := cell_of_heap (o := 0) hq
  have c1 := cell_of_heap (o := 1) hq
  have c2 := cell_of_heap (o := 2) hq
  have c3 := cell_of_heap (o := 3) hq
  have c4 := cell_of_heap (o := 4) hq
  simp only [List.getElem?_toArray, List.getElem?_cons_zero, List.getElem?_cons_succ] at c0 c1 c2 c3 c4
  simp [results, Tryz.results20, h2, go_sem, c0, c1, c2, c3, c4]

theorem door20_end {tmps : Array Value} {mb base ub fuel used P Q : Nat} {outs : List (Int × Nat)} {st code : Int} {x0 x1 x2 x3 x4 : Value} {w : World} {R : Ending → World → Prop} (h2 : tmps[2]? = some (.pointer (some ⟨Q, 0, none⟩)))
    (hm : MAt w mb base ub fuel outs used) (hp : w.heap[P]? = some (.cells #[.pointer (some ⟨mb, 0, none⟩)] 76 (0, 0))) (hq : w.heap[Q]? = some (.cells #[x0, x1, x2, x3, x4] 31 (0, 0))) (hPm : P ≠ mb) (hQm : Q ≠ mb) (hPQ : P ≠ Q)
    (h : ∀ (w' : World) (va : Option Addr) (vc : Nat), w'.ownsRow base 43 2 (.slice va outs.length vc) outs.length (outs.flatMap outCells) → (∀ k, k < w.heap.size → k ≠ mb → k ≠ Q → w'.heap[k]? = w.heap[k]?) → w.heap.size ≤ w'.heap.size → w'.os = w.os → w'.tape = w.tape → w'.output = w.output →
      R (.returned (.agg #[.slice va outs.length vc, .int .i64 st, .int .i64 code, .int .i64 0, .int .i64 (used : Int)])) w') :
    Leaves Tryz.prog Tryz.f20 tmps R [{ target := .fn (.func 39) #[.pointer (some ⟨P, 0, none⟩), .pointer (some ⟨Q, 0, none⟩)], args := #[] }] (.panicking [{ v := endV st code, recovered := false }]) w := by
  obtain ⟨⟨cs, v, g1, g2, g3⟩, hlow⟩ := hm
  obtain ⟨va, vc, rfl⟩ := own_form g3
  refine leaves_cons (f := 39) (args := #[.pointer (some ⟨P, 0, none⟩), .pointer (some ⟨Q, 0, none⟩)]) (by simp) (by simp [go_sem]) ?_
  refine (end_catch mb P Q hPm hQm hPQ ub fuel used va outs.length vc x0 x1 x2 x3 x4 cs st code w g1 g2 hp hq).mono ?_
  rintro e u' w' ⟨rfl, rfl, hq', h1, h4, h5, h6, h7⟩
  refine ⟨_, results20_run h2 hq', h w' va vc (own_keep g3 (fun g hg => ?_) (Nat.le_refl _)) h1 h4 h5 h6 h7⟩
  refine h1 g (own_block g3 hg).2 (fun e => row_other g3 g1 (e ▸ hg)) ?_
  rintro rfl
  obtain ⟨cur, hcur⟩ := own_heap g3 hg
  rw [hq] at hcur
  simp at hcur

/-- What running leaves. -/
def RunPost (base : Nat) (w : World) (c : Option Nat) (fuel : Nat) (e : Ending) (w' : World) : Prop :=
  ∃ (va : Option Addr) (vc : Nat) (outs : List (Int × Nat)) (st code : Int) (used : Nat), e = .returned (.agg #[.slice va outs.length vc, .int .i64 st, .int .i64 code, .int .i64 0, .int .i64 (used : Int)]) ∧
    w'.ownsRow base 43 2 (.slice va outs.length vc) outs.length (outs.flatMap outCells) ∧ Below base w w' ∧ (∀ y, c = some y → 0 < fuel → outs = [(14, y), (1, 0)] ∧ st = 3 ∧ code = 0 ∧ used = 1)

theorem cells1 {w : World} {b : Nat} {x : Value} {T : TypeId} (h : w.heap[b]? = some (.cells #[x] T (0, 0))) : w.cell? ⟨b, 0, none⟩ = some x := by
  rw [cell_of_heap h]; rfl

set_option maxRecDepth 100000 in
set_option maxHeartbeats 6400000 in
theorem mrun_any {base hi lo : Nat} {L : Places} (body : Ast) (w : World) (mb ub gb mpb n fuel : Nat) (v : Value) (h : MIn w mb base ub mpb n fuel L [] 0) (hgb : gb < base) (hu0 : w.cell? ⟨ub, 0, none⟩ = some (.pointer (some ⟨gb, 0, none⟩))) (hg1 : w.cell? ⟨gb, 1, none⟩ = some v)
    (ha : AstAt w lo hi body v) (hhi : hi ≤ base) (hok : body.okS) (hl : body.isL) (hck : ∃ loops, chkF L body loops = none) (hsz : body.sz ≤ 300000) :
    Calls Tryz.prog 20 #[.pointer (some ⟨mb, 0, none⟩)] w (RunPost base w (constI body.items) fuel) := by
  have hmf : ∀ (fn : Fn) (first cap : Array Value) (w : World), (Instr.makeFunc fn first cap).run Tryz.prog w = .ok (.func fn first cap) w := fun _ _ _ _ => rfl
  have hlow := h.m.low
  have hmb := h.m.cells.choose_spec.2.2
  have hub := h.hub
  have hBB := h.hB
  have HM := Lib.hid h
  have HBODY := Lib.hid (fun w2 mb ub mpb n fuel used outs v => body_tells (base := base) (hi := hi) (lo := lo) (L := L) body w2 mb ub mpb n fuel used outs v)
  have HA := Lib.hid ha
  have HOK := Lib.hid hok
  have HL := Lib.hid hl
  have HCK := Lib.hid hck
  have HU0 := Lib.hid hu0
  have HG1 := Lib.hid hg1
  clear h ha hok hl hck hu0 hg1
  have hE0 : Ext w ((w.alloc (.cells #[.pointer (some ⟨mb, 0, none⟩)] 76)).alloc (.cells #[.slice none 0 0, .int .i64 0, .int .i64 0, .int .i64 0, .int .i64 0] 31)) := ((Ext.refl w).alloc _).alloc _
  have hP0 : ((w.alloc (.cells #[.pointer (some ⟨mb, 0, none⟩)] 76)).alloc (.cells #[.slice none 0 0, .int .i64 0, .int .i64 0, .int .i64 0, .int .i64 0] 31)).heap[w.heap.size]? = some (.cells #[.pointer (some ⟨mb, 0, none⟩)] 76 (0, 0)) := by
    rw [heapA, if_neg (by rw [szA]; omega), heapA, if_pos rfl]
  have hQ0 : ((w.alloc (.cells #[.pointer (some ⟨mb, 0, none⟩)] 76)).alloc (.cells #[.slice none 0 0, .int .i64 0, .int .i64 0, .int .i64 0, .int .i64 0] 31)).heap[w.heap.size + 1]? = some (.cells #[.slice none 0 0, .int .i64 0, .int .i64 0, .int .i64 0, .int .i64 0] 31 (0, 0)) := by
    rw [heapA, if_pos (by rw [szA])]
  have HE0 := Lib.hid hE0
  have HP0 := Lib.hid hP0
  have HQ0 := Lib.hid hQ0
  clear hE0 hP0 hQ0
  generalize constI body.items = C at *
  go_enter_defers Tryz.func20, Tryz.ntmps20
  go_wp2_with fail
  generalize ((w.alloc (.cells #[.pointer (some ⟨mb, 0, none⟩)] 76)).alloc (.cells #[.slice none 0 0, .int .i64 0, .int .i64 0, .int .i64 0, .int .i64 0] 31)) = W0 at *
  have hM0 := HM.out.ext HE0.out.drew
  have c0 : W0.drew.cell? ⟨w.heap.size, 0, none⟩ = some (.pointer (some ⟨mb, 0, none⟩)) := cells1 HP0.out
  have c1 : W0.drew.cell? ⟨mb, 0, none⟩ = some (.pointer (some ⟨ub, 0, none⟩)) := hM0.cell0
  have c2 : W0.drew.cell? ⟨ub, 0, none⟩ = some (.pointer (some ⟨gb, 0, none⟩)) := (HE0.out.cell ub 0 (by omega)).trans HU0.out
  have c3 : W0.drew.cell? ⟨gb, 1, none⟩ = some v := (HE0.out.cell gb 1 (by omega)).trans HG1.out
  have HM0 := Lib.hid hM0
  clear hM0
  have hszE := HE0.out.size
  have hPW := heap_lt HP0.out
  have hQW := heap_lt HQ0.out
  have close : ∀ (w2 w' : World) (outs : List (Int × Nat)) (st code : Int) (used : Nat) (va : Option Addr) (vc : Nat), MFr base mb W0.drew w2 → w'.ownsRow base 43 2 (.slice va outs.length vc) outs.length (outs.flatMap outCells) → (∀ k, k < w2.heap.size → k ≠ mb → k ≠ w.heap.size + 1 → w'.heap[k]? = w2.heap[k]?) → w2.heap.size ≤ w'.heap.size → w'.os = w2.os → w'.tape = w2.tape → w'.output = w2.output →
      (∀ y, C = some y → 0 < fuel → outs = [(14, y), (1, 0)] ∧ st = 3 ∧ code = 0 ∧ used = 1) →
      RunPost base w C fuel (.returned (.agg #[.slice va outs.length vc, .int .i64 st, .int .i64 code, .int .i64 0, .int .i64 (used : Int)])) w' := by
    intro w2 w' outs st code used va vc hf hrow h1 h2 h3 h4 h5 hex
    have hb := hf.below
    have hbz := hb.size
    rw [szD] at hbz
    refine ⟨va, vc, outs, st, code, used, rfl, hrow, ⟨h3.trans (hb.os.trans HE0.out.os), h4.trans (hb.tape.trans HE0.out.tape), h5.trans (hb.output.trans HE0.out.output), by omega, fun k hk => ?_⟩, hex⟩
    rw [h1 k (by omega) (by omega) (by omega), hb.block k hk, heapD, HE0.out.block k (by omega)]
  refine wp_region_planS2 (fun w' => w'.cell? ⟨w.heap.size, 0, none⟩ = some (.pointer (some ⟨mb, 0, none⟩)) ∧ w'.cell? ⟨mb, 0, none⟩ = some (.pointer (some ⟨ub, 0, none⟩)) ∧ w'.cell? ⟨ub, 0, none⟩ = some (.pointer (some ⟨gb, 0, none⟩)) ∧ w'.cell? ⟨gb, 1, none⟩ = some v)
    [(0, true), (1, true), (2, true), (3, true), (4, true), (5, true), (6, true), (7, true), (8, true), (9, true), (10, true), (11, false)] (by kernel_rfl) (by kernel_rfl) (fun i o hm ho c a v w h => door20_put (plan20_dsts (by kernel_rfl) i o hm ho) h) ⟨c0, c1, c2, c3⟩ ?_
  iterate 11 (refine ⟨_, ?_, rfl, Or.inl ⟨by rfl, ?_⟩, ?_⟩; rotate_left; (· intro w' hSw; (try dsimp only at hSw); go_simp; (try with_reducible rfl)); simp only [Act.put, List.setIfInBounds_toArray])
  refine wpPlanS_act rfl (by rfl) (fun K hK => ?_)
  go_simp
  refine (HBODY.out W0.drew mb ub mpb n fuel 0 [] v HM0.out (HE0.out.drew.ast (by omega) (Nat.le_refl _) (Nat.le_refl _) HA.out) hhi HOK.out HL.out HCK.out hsz).mono ?_
  rintro e w2 hx
  rcases hx with ⟨how, outs2, used2, rfl, hhow, hm, hu2, ho2, hf, hex⟩ | ⟨hcn, st, code, outs2, used2, rfl, hm, hf⟩
  rotate_left
  · refine door20_end (P := w.heap.size) (Q := w.heap.size + 1) rfl hm (hf.typ _ _ HP0.out (by omega) (fun c f hh => by cases hh)) (hf.typ _ _ HQ0.out (by omega) (fun c f hh => by cases hh)) (by omega) (by omega) (by omega) ?_
    intro w' va vc hrow h1 h2 h3 h4 h5
    refine close w2 w' outs2 st code used2 va vc hf hrow h1 h2 h3 h4 h5 (fun y hy h0 => ?_)
    rcases hcn with h | h
    · rw [h] at hy; cases hy
    · omega
  have HM2 := Lib.hid hm
  have HF2 := Lib.hid hf
  have HX2 := Lib.hid hex
  have hol := hm.ol
  have hfu := hm.fu
  have hf6 := hm.f6
  have d0 : w2.cell? ⟨w.heap.size, 0, none⟩ = some (.pointer (some ⟨mb, 0, none⟩)) := cells1 (hf.typ _ _ HP0.out (by omega) (fun c f hh => by cases hh))
  have d1 := hm.cell0
  have d2 : w2.cell? ⟨ub, 0, none⟩ = some (.pointer (some ⟨gb, 0, none⟩)) := (hf.below.cell (p := ⟨ub, 0, none⟩) hub).trans c2
  have d3 : w2.cell? ⟨gb, 1, none⟩ = some v := (hf.below.cell (p := ⟨gb, 1, none⟩) hgb).trans c3
  refine hK _ _ ⟨d0, d1, d2, d3⟩ ?_
  simp only [wpPlanS]
  clear hK K hm hf hex c0 c1 c2 c3
  try simp only [Act.put, List.setIfInBounds_toArray, List.set_cons_zero, List.set_cons_succ]
  go_wp2_with fail
  refine (halt_any 0 (by omega) _ HM2.out.m HM2.out.hB (by omega)).mono ?_
  rintro e w3 ⟨rfl, hm3, hf3⟩
  have hf23 := HF2.out.trans hf3
  refine door20_end (P := w.heap.size) (Q := w.heap.size + 1) rfl hm3 (hf23.typ _ _ HP0.out (by omega) (fun c f hh => by cases hh)) (hf23.typ _ _ HQ0.out (by omega) (fun c f hh => by cases hh)) (by omega) (by omega) (by omega) ?_
  intro w' va vc hrow h1 h2 h3 h4 h5
  refine close w3 w' _ _ _ _ va vc hf23 hrow h1 h2 h3 h4 h5 (fun y hy h0 => ?_)
  obtain ⟨-, rfl, rfl⟩ := HX2.out y hy
  exact ⟨rfl, rfl, rfl, rfl⟩
end Go.Proofs.YtgjgaeloehfhiaaGreatDoor
end
section
/- Lists of words held against each other; meanings. -/
namespace Go.Proofs.YtgjgaeloehfhiaaGreatDoor
open Go.RowKit

set_option maxRecDepth 100000 in
set_option maxHeartbeats 1600000 in
theorem sameWords_yes (xs : List Nat) (hx : xs.length ≤ 100000) (g1 c1 g2 c2 : Nat) (w : World) (hg1 : g1 < w.heap.size) (hg2 : g2 < w.heap.size) (h1 : ∀ k, k < xs.length → w.cell? ⟨g1, k, none⟩ = some (wordV (xs.getD k 0))) (h2 : ∀ k, k < xs.length → w.cell? ⟨g2, k, none⟩ = some (wordV (xs.getD k 0))) :
    Calls Tryz.prog 12 #[.slice (some ⟨g1, 0, none⟩) xs.length c1, .slice (some ⟨g2, 0, none⟩) xs.length c2] w fun e w' => e = .returned (.bool true) ∧ Ext w w' := by
  have H1 := Lib.hid h1
  have H2 := Lib.hid h2
  clear h1 h2
  go_enter Tryz.func12, Tryz.ntmps12
  go_wp2_with fail
  go_loopw [5] (fun i wr => ∃ k : Nat, k ≤ xs.length ∧ i = .int .i64 k ∧ Hid (Ext w wr)) (fun i _ => xs.length - (intOf i).toNat)
  case atStart => exact ⟨0, by omega, rfl, Lib.hid (Ext.refl w)⟩
  case round =>
    obtain ⟨k, hk, rfl, HE⟩ := hrel
    by_cases hlt : k < xs.length
    · have c1' := (HE.out.cell g1 k hg1).trans (H1.out k hlt)
      have c2' := (HE.out.cell g2 k hg2).trans (H2.out k hlt)
      unfold wordV at c1' c2'
      generalize xs.getD k 0 = x at *
      go_wp2_with fail
      go_quiet (fail)
      go_wp2
      all_goals exact ⟨⟨k + 1, by omega, by go_num, Lib.hid (HE.out.drewN _)⟩, by simp [intOf]; omega⟩
    · have hkk : k = xs.length := by omega
      subst hkk
      go_wp2_with fail
      go_ret
      exact ⟨rfl, HE.out⟩

/-- No meaning. -/
def zeroM : Value := .agg #[.slice none 0 0, .int .i64 0, .int .i64 0, .int .i64 0, .int .i64 0]
set_option maxRecDepth 100000 in
set_option maxHeartbeats 1600000 in
theorem sameMeaning_zero (w : World) : Calls Tryz.prog 10 #[zeroM, zeroM] w fun e w' => e = .returned (.bool true) ∧ Ext w w' := by
  unfold zeroM
  go_enter Tryz.func10, Tryz.ntmps10
  go_wp2
  go_loopw [5] (fun i wr => i = .int .i64 0 ∧ wr = ((w.alloc (.cells #[.slice none 0 0, .int .i64 0, .int .i64 0, .int .i64 0, .int .i64 0] 31)).alloc (.cells #[.slice none 0 0, .int .i64 0, .int .i64 0, .int .i64 0, .int .i64 0] 31))) (fun _ _ => 0)
  case atStart => exact ⟨rfl, rfl⟩
  case round =>
    obtain ⟨rfl, rfl⟩ := hrel
    go_wp2
    go_ret
    exact ⟨rfl, ((Ext.refl w).alloc _).alloc _⟩
end Go.Proofs.YtgjgaeloehfhiaaGreatDoor
end
section
/- Eval. -/
namespace Go.Proofs.YtgjgaeloehfhiaaGreatDoor
open Go.RowKit

/-- A new machine, cell by cell. -/
def machL (ub fuel : Nat) : List Value := .pointer (some ⟨ub, 0, none⟩) :: (List.replicate 96 (.int .u32 ((0 : Nat) : Int)) ++ [.slice none 0 0, .int .i64 (fuel : Int), .slice none 0 0, .int .i64 0, .int .i64 0, .int .i64 0, .int .i64 ((0 : Nat) : Int)])
def machA (ub fuel : Nat) : Array Value := (machL ub fuel).toArray
theorem machA_ok (ub fuel : Nat) : MCs (machA ub fuel) ub fuel (.slice none 0 0) 0 := by
  refine ⟨by simp [machA, machL], rfl, fun i hi => ⟨0, by omega, ?_⟩, rfl, rfl, rfl, rfl, rfl, rfl, rfl⟩
  unfold machA machL
  rw [List.getElem?_toArray, Nat.add_comm, List.getElem?_cons_succ, List.getElem?_append_left (by simpa using hi), List.getElem?_replicate, if_pos hi]

set_option maxRecDepth 100000 in
theorem mach_eq (ub fuel : Nat) : (((Tryz.zeroCells79.setIfInBounds 0 (.pointer (some ⟨ub, 0, none⟩))).setIfInBounds 97 (.slice none 0 0)).setIfInBounds 98 (.int .i64 (fuel : Int))) = machA ub fuel := by kernel_rfl
theorem results8_run {tmps : Array Value} {Q : Nat} {x0 x1 x2 x3 x4 a b : Value} {w : World} (h6 : tmps[6]? = some (.pointer (some ⟨Q, 0, none⟩))) (h7 : tmps[7]? = some a) (h8 : tmps[8]? = some b)
    (hq : w.heap[Q]? = some (.cells #[x0, x1, x2, x3, x4] 31 (0, 0))) : (results Tryz.f8 tmps).run Tryz.prog w = .ok (.tuple #[.agg #[x0, x1, x2, x3, x4], a, b]) w := by
  have c0 := cell_of_heap (o := 0) hq
  have c1 := cell_of_heap (o := 1) hq
  have c2 := cell_of_heap (o := 2) hq
  have c3 := cell_of_heap (o := 3) hq
  have c4 := cell_of_heap (o := 4) hq
  simp only [List.getElem?_toArray, List.getElem?_cons_zero, List.getElem?_cons_succ] at c0 c1 c2 c3 c4
  simp [results, Tryz.results8, h6, h7, h8, go_sem, c0, c1, c2, c3, c4]
/-- Five cells written over. -/
theorem five_set {w w1 : World} {Q : Nat} {y0 y1 y2 y3 y4 : Value} (hE : Ext w w1) (hQ : w.heap.size ≤ Q) {x0 x1 x2 x3 x4 : Value} (hq : w1.heap[Q]? = some (.cells #[x0, x1, x2, x3, x4] 31 (0, 0))) :
    (((((w1.setCell ⟨Q, 0, none⟩ y0).setCell ⟨Q, 1, none⟩ y1).setCell ⟨Q, 2, none⟩ y2).setCell ⟨Q, 3, none⟩ y3).setCell ⟨Q, 4, none⟩ y4).heap[Q]? = some (.cells #[y0, y1, y2, y3, y4] 31 (0, 0)) ∧
    Ext w (((((w1.setCell ⟨Q, 0, none⟩ y0).setCell ⟨Q, 1, none⟩ y1).setCell ⟨Q, 2, none⟩ y2).setCell ⟨Q, 3, none⟩ y3).setCell ⟨Q, 4, none⟩ y4) := by
  refine ⟨?_, ((((hE.setCell (p := ⟨Q, 0, none⟩) hQ _).setCell (p := ⟨Q, 1, none⟩) hQ _).setCell (p := ⟨Q, 2, none⟩) hQ _).setCell (p := ⟨Q, 3, none⟩) hQ _).setCell (p := ⟨Q, 4, none⟩) hQ _⟩
  simp only [heapS, if_true, hq]
  rfl

/-- What Eval leaves. -/
def EvalPost (w : World) (fuel : Nat) : Except (Nat × Nat) UnitF → Ending → World → Prop
  | .error (ln, code), e, w' => e = .returned (.tuple #[zeroM, .int .i64 ln, .int .i64 code]) ∧ Ext w w'
  | .ok u, e, w' => ∃ (va : Option Addr) (vc : Nat) (outs : List (Int × Nat)) (st code : Int) (used : Nat), e = .returned (.tuple #[.agg #[.slice va outs.length vc, .int .i64 st, .int .i64 code, .int .i64 0, .int .i64 (used : Int)], .int .i64 0, .int .i64 0]) ∧ Ext w w' ∧
      w'.ownsRow w.heap.size 43 2 (.slice va outs.length vc) outs.length (outs.flatMap outCells) ∧ (∀ y, constI u.body.items = some y → 0 < fuel → outs = [(14, y), (1, 0)] ∧ st = 3 ∧ code = 0 ∧ used = 1)

set_option maxRecDepth 100000 in
set_option maxHeartbeats 1600000 in
theorem eval_bad (s : ByteArray) (fuel : Int) (h : fuel < 0 ∨ 65536 < fuel) (w : World) : Calls Tryz.prog 8 #[.string s, .slice none 0 0, .int .i64 fuel] w fun e w' => e = .returned (.tuple #[zeroM, .int .i64 0, .int .i64 1]) ∧ Ext w w' := by
  unfold zeroM
  by_cases h0 : fuel < 0
  · have hd : decide (fuel < 0) = true := by simpa using h0
    go_enter Tryz.func8, Tryz.ntmps8
    go_wp2
    exact bodyPost_ret (v := .tuple #[.agg #[.slice none 0 0, .int .i64 0, .int .i64 0, .int .i64 0, .int .i64 0], .int .i64 0, .int .i64 1]) (by simp [results, Tryz.results8, go_sem]) rfl ⟨rfl, (Ext.refl w).alloc _⟩
  · have h1 : 65536 < fuel := by omega
    have hd : decide (fuel < 0) = false := by simpa using h0
    have hd1 : decide (fuel > 65536) = true := by simpa using h1
    have hd2 : decide (65536 < fuel) = true := by simpa using h1
    go_enter Tryz.func8, Tryz.ntmps8
    go_wp2
    exact bodyPost_ret (v := .tuple #[.agg #[.slice none 0 0, .int .i64 0, .int .i64 0, .int .i64 0, .int .i64 0], .int .i64 0, .int .i64 1]) (by simp [results, Tryz.results8, go_sem]) rfl ⟨rfl, (Ext.refl w).alloc _⟩

set_option maxRecDepth 100000 in
set_option maxHeartbeats 6400000 in
theorem eval_any {N : Nat} (s : ByteArray) (hs : s.size ≤ maxLen) (fuel : Nat) (hf : fuel ≤ 65536) (w : World) (hG : Gl N w) (hC : Cb N w) (hN : N ≤ w.heap.size) :
    Calls Tryz.prog 8 #[.string s, .slice none 0 0, .int .i64 (fuel : Int)] w (EvalPost w fuel (takenF s)) := by
  have hE0 : Ext w (w.alloc (.cells #[.slice none 0 0, .int .i64 0, .int .i64 0, .int .i64 0, .int .i64 0] 31)) := (Ext.refl w).alloc _
  have htk := taken_any s hs (w.alloc (.cells #[.slice none 0 0, .int .i64 0, .int .i64 0, .int .i64 0, .int .i64 0] 31)) (hG.ext hE0) (hC.below hN hE0.below) (by rw [szA]; omega)
  have hQ0 : (w.alloc (.cells #[.slice none 0 0, .int .i64 0, .int .i64 0, .int .i64 0, .int .i64 0] 31)).heap[w.heap.size]? = some (.cells #[.slice none 0 0, .int .i64 0, .int .i64 0, .int .i64 0, .int .i64 0] 31 (0, 0)) := by
    rw [heapA, if_pos rfl]
  have hd0 : decide ((fuel : Int) < 0) = false := by simp
  have hd1 : decide ((fuel : Int) > 65536) = false := by simp; omega
  have hd2 : decide ((65536 : Int) < (fuel : Int)) = false := by simp; omega
  have hcode := fun ln code (h : takenF s = .error (ln, code)) => (takenF_err h).1
  have hgood := fun u (h : takenF s = .ok u) => takenF_good h
  have HTK := Lib.hid htk
  have HE0 := Lib.hid hE0
  have HQ0 := Lib.hid hQ0
  have HCODE := Lib.hid hcode
  have HGOOD := Lib.hid hgood
  clear htk hG hC hE0 hQ0 hcode hgood
  generalize takenF s = R at *
  go_enter Tryz.func8, Tryz.ntmps8
  go_wp2_with fail
  refine HTK.out.mono ?_
  generalize (w.alloc (.cells #[.slice none 0 0, .int .i64 0, .int .i64 0, .int .i64 0, .int .i64 0] 31)) = W0 at *
  rintro e w1 hp
  cases R with
  | error q =>
    obtain ⟨ln, code⟩ := q
    obtain ⟨rfl, hE⟩ := hp
    have HE := Lib.hid (HE0.out.trans hE)
    have hq := (hE.block _ (heap_lt HQ0.out)).trans HQ0.out
    obtain ⟨q0, q1, q2⟩ := cells_of_heap hq
    have q00 := q0 0
    have q01 := q0 1
    have q02 := q0 2
    have q03 := q0 3
    have q04 := q0 4
    simp only [List.getElem?_toArray, List.getElem?_cons_zero, List.getElem?_cons_succ] at q00 q01 q02 q03 q04
    have f0 := q1 0
    have f1 := q1 1
    have f2 := q1 2
    have f3 := q1 3
    have f4 := q1 4
    have hc := HCODE.out _ _ rfl
    have hne : ((code : Int) != 0) = true := by rw [bne_iff_ne]; omega
    have HQ := Lib.hid hq
    clear hE hc hq q0 q1
    go_wp2_with fail
    obtain ⟨r1, r2⟩ := five_set (y0 := .slice none 0 0) (y1 := .int .i64 0) (y2 := .int .i64 0) (y3 := .int .i64 0) (y4 := .int .i64 0) HE.out (Nat.le_refl _) HQ.out
    exact bodyPost_ret (results8_run rfl rfl rfl r1) rfl ⟨rfl, r2⟩
  | ok u =>
    obtain ⟨ub, rfl, hE, hu⟩ := hp
    obtain ⟨pb, mpb, n, vd, vb, cv, h1, h2, -, h4, h5, -, h7, h8⟩ := hu.ex
    obtain ⟨-, -, -, hlr, hok, hl, hsz, hck, -⟩ := HGOOD.out u rfl
    have x1 := hE.size
    have x0 := HE0.out.size
    have hub := heap_lt h1
    have hpb := heap_lt h2
    have hmp := h5.size
    have hM : MIn (w1.alloc (.cells (machA ub fuel) 79)) w1.heap.size w1.heap.size ub mpb n fuel u.places [] 0 := by
      have hEA : Ext w1 (w1.alloc (.cells (machA ub fuel) 79)) := (Ext.refl w1).alloc _
      refine ⟨⟨⟨_, _, by rw [heapA, if_pos rfl], machA_ok ub fuel, World.ownsRow_nil _ _ _ _⟩, Nat.le_refl _⟩, by rw [szA]; omega, hub, ?_, h5.keep (hEA.block _ hmp), hmp, hlr, Nat.zero_le _, hf, by simp⟩
      rw [hEA.cell ub 1 hub, cell_of_heap h1]
      rfl
    have hrun := mrun_any u.body (w1.alloc (.cells (machA ub fuel) 79)) w1.heap.size ub pb mpb n fuel vb hM hpb
      (by rw [((Ext.refl w1).alloc _).cell ub 0 hub, cell_of_heap h1]; rfl) (by rw [((Ext.refl w1).alloc _).cell pb 1 hpb, cell_of_heap h2]; rfl)
      (((Ext.refl w1).alloc _).ast (Nat.le_refl _) (Nat.le_refl _) (Nat.le_refl _) h4) (Nat.le_refl _) hok hl ⟨0, hck⟩ hsz
    rw [← mach_eq] at hrun
    have hEW := HE0.out.trans hE
    have hqW := (hE.block _ (heap_lt HQ0.out)).trans HQ0.out
    have HRUN := Lib.hid hrun
    have HEW := Lib.hid hEW
    have HQW := Lib.hid hqW
    clear hE hu h1 h2 h4 h5 h7 h8 hM hrun hEW hqW hck
    go_wp2_with fail
    refine HRUN.out.mono ?_
    rintro e w2 ⟨va, vc, outs, st, code, used, rfl, hrow, hb, hex⟩
    have hbz := hb.size
    rw [szA] at hbz
    have hE2 : Ext w w2 := by
      refine ⟨hb.os.trans HEW.out.os, hb.tape.trans HEW.out.tape, hb.output.trans HEW.out.output, by have := HEW.out.size; omega, fun k hk => ?_⟩
      have hk1 : k < w1.heap.size := Nat.lt_of_lt_of_le hk HEW.out.size
      rw [hb.block k hk1, heapA, if_neg (by omega), HEW.out.block k hk]
    have hq1 := heap_lt HQW.out
    have hq2 : w2.heap[w.heap.size]? = some (.cells #[.slice none 0 0, .int .i64 0, .int .i64 0, .int .i64 0, .int .i64 0] 31 (0, 0)) := by
      rw [hb.block _ hq1, heapA, if_neg (by omega)]; exact HQW.out
    obtain ⟨q0, q1, q2⟩ := cells_of_heap hq2
    have q00 := q0 0
    have q01 := q0 1
    have q02 := q0 2
    have q03 := q0 3
    have q04 := q0 4
    simp only [List.getElem?_toArray, List.getElem?_cons_zero, List.getElem?_cons_succ] at q00 q01 q02 q03 q04
    have f0 := q1 0
    have f1 := q1 1
    have f2 := q1 2
    have f3 := q1 3
    have f4 := q1 4
    have HROW := Lib.hid hrow
    have HE2 := Lib.hid hE2
    have HQ2 := Lib.hid hq2
    have HEX := Lib.hid hex
    clear hrow hb hex hE2 hq2 q0 q1
    go_wp2_with fail
    obtain ⟨r1, r2⟩ := five_set (y0 := .slice va outs.length vc) (y1 := .int .i64 st) (y2 := .int .i64 code) (y3 := .int .i64 0) (y4 := .int .i64 (used : Int)) HE2.out (Nat.le_refl _) HQ2.out
    refine bodyPost_ret (results8_run rfl rfl rfl r1) rfl ⟨va, vc, outs, st, code, used, rfl, r2, ?_, HEX.out⟩
    refine own_keep HROW.out (fun g hg => ?_) (by have := HEW.out.size; omega)
    have := (own_block HROW.out hg).1
    simp only [heapS, if_neg (show ¬ g = w.heap.size by omega)]
end Go.Proofs.YtgjgaeloehfhiaaGreatDoor
end
section
/- The law's own source: what it comes to, by reckoning. -/
namespace Go.Proofs.YtgjgaeloehfhiaaGreatDoor
open Go.RowKit

def srcB : ByteArray := ⟨#[101, 109, 105, 116, 32, 50, 32, 43, 32, 51, 32, 42, 32, 52, 59]⟩
def wordsOf : Except (Nat × Nat) UnitF → List Nat
  | .ok u => u.code.map Ins.word
  | .error _ => []
def constOf : Except (Nat × Nat) UnitF → Option Nat
  | .ok u => constI u.body.items
  | .error _ => none
set_option maxRecDepth 100000 in
theorem src_words : (wordsOf (takenF srcB)).length = 18 ∧ (wordsOf (takenF srcB)).getD 0 0 = 40894464 ∧ (wordsOf (takenF srcB)).getD 1 0 = 37748738 ∧ (wordsOf (takenF srcB)).getD 17 0 = 436207617 := by
  refine ⟨?_, ?_, ?_, ?_⟩ <;> kernel_rfl
set_option maxRecDepth 100000 in
theorem src_const : constOf (takenF srcB) = some 14 := by kernel_rfl
end Go.Proofs.YtgjgaeloehfhiaaGreatDoor
end
section
/- The law's own first look. -/
namespace Go.Proofs.YtgjgaeloehfhiaaGreatDoor
open Go.RowKit

set_option maxRecDepth 100000 in
set_option maxHeartbeats 6400000 in
theorem lives_any {N : Nat} (w : World) (hG : Gl N w) (hC : Cb N w) (hN : N ≤ w.heap.size) : Calls Tryz.prog 4 #[] w fun e w' => e = .returned (.bool true) ∧ Ext w w' := by
  have hgood := fun u (h : takenF srcB = .ok u) => takenF_good h
  have hcp := compile_any srcB (by decide) w hG hC hN (fun u h => ⟨(hgood u h).1, (hgood u h).2.1⟩)
  have hev := fun w' (hE : Ext w w') => eval_any srcB (by decide) 9 (by omega) w' (hG.ext hE) (hC.below hN hE.below) (Nat.le_trans hN hE.size)
  have hsw := src_words
  have hsc := src_const
  clear hgood hG hC
  generalize takenF srcB = R at *
  unfold srcB at hcp hev
  cases R with
  | error q => exact absurd hsw.1 (by simp [wordsOf])
  | ok u =>
    simp only [wordsOf, constOf, List.length_map] at hsw hsc
    obtain ⟨hl, h0, h1, h17⟩ := hsw
    have hcells : ∀ k, k < 18 → (u.code.map fun i => wordV i.word)[k]? = some (.int .u32 ((((u.code.map Ins.word).getD k 0 : Nat) : Int))) := fun k hk => by
      simp [wordV, List.getD_eq_getElem?_getD, hl, hk]
    have k0 := hcells 0 (by omega)
    have k1 := hcells 1 (by omega)
    have k17 := hcells 17 (by omega)
    rw [h0] at k0
    rw [h1] at k1
    rw [h17] at k17
    have HCP := Lib.hid hcp
    have HEV := Lib.hid hev
    have HK := Lib.hid (And.intro k0 (And.intro k1 k17))
    have HL := Lib.hid hl
    have HSC := Lib.hid hsc
    clear hcp hev k0 k1 k17 hl h0 h1 h17 hsc hcells
    go_enter Tryz.func4, Tryz.ntmps4
    go_wp2_with fail
    refine HCP.out.mono ?_
    rintro e w1 ⟨v, rfl, hE, hrow⟩
    rw [HL.out] at hrow
    obtain ⟨g, cap, rfl⟩ := own_slc hrow (by omega)
    have c0 := (World.ownsRow.cellAt hrow 0 (by omega)).trans HK.out.1
    have c1 := (World.ownsRow.cellAt hrow 1 (by omega)).trans HK.out.2.1
    have c17 := (World.ownsRow.cellAt hrow 17 (by omega)).trans HK.out.2.2
    have hgb := (own_block hrow (g := g) rfl).2
    have HE := Lib.hid hE
    have H0 := Lib.hid c0
    have H1 := Lib.hid c1
    have H17 := Lib.hid c17
    clear hE hrow c0 c1 c17 HCP
    go_wp2_with fail
    refine (HEV.out _ HE.out).mono ?_
    rintro e w2 ⟨va, vc, outs, st, code, used, rfl, hE2, hrow2, hex⟩
    obtain ⟨rfl, rfl, rfl, rfl⟩ := hex 14 HSC.out (by omega)
    obtain ⟨g2, cap2, hv2⟩ := own_slc hrow2 (by simp)
    injection hv2 with hv2 _ _
    subst hv2
    have d0 := World.ownsRow.cellAt hrow2 0 (by simp)
    have d1 := World.ownsRow.cellAt hrow2 1 (by simp)
    have d2 := World.ownsRow.cellAt hrow2 2 (by simp)
    have d3 := World.ownsRow.cellAt hrow2 3 (by simp)
    simp only [outCells, List.flatMap_cons, List.flatMap_nil, List.cons_append, List.nil_append, List.append_nil, List.getElem?_cons_zero, List.getElem?_cons_succ] at d0 d1 d2 d3
    have c0 : w2.cell? ⟨g, 0, none⟩ = some (.int .u32 40894464) := (hE2.cell g 0 hgb).trans H0.out
    have c1 : w2.cell? ⟨g, 1, none⟩ = some (.int .u32 37748738) := (hE2.cell g 1 hgb).trans H1.out
    have c17 : w2.cell? ⟨g, 17, none⟩ = some (.int .u32 436207617) := (hE2.cell g 17 hgb).trans H17.out
    have d1' : w2.cell? ⟨g2, 1, none⟩ = some (.int .u32 14) := d1
    have d3' : w2.cell? ⟨g2, 3, none⟩ = some (.int .u32 0) := d3
    have hg2 := (own_block hrow2 (g := g2) rfl).2
    have hz2 := hE2.size
    have m1 : g ≠ w2.heap.size := by omega
    have m2 : g2 ≠ w2.heap.size := by omega
    have m3 := m1.symm
    have m4 := m2.symm
    have m5 : g < w2.heap.size := by omega
    clear d1 d3
    have HE2 := Lib.hid (HE.out.trans hE2)
    clear hE2 hrow2 hex
    go_wp2_with fail
    go_ret
    exact ⟨rfl, HE2.out.alloc _⟩
end Go.Proofs.YtgjgaeloehfhiaaGreatDoor
end
