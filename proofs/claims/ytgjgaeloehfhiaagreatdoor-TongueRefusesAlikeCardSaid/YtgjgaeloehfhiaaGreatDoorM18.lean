/- The reader's statements. -/
import Derived.Test.YtgjgaeloehfhiaaGreatDoorM17
namespace Go.Proofs.YtgjgaeloehfhiaaGreatDoor
open Go.RowKit

theorem hp_give {rb lb cap : Nat} {toks : List Tok} {at_ : Nat} (w : World) (h : RdAt w rb lb cap toks at_) :
    Calls Tryz.prog 94 #[.pointer (some ⟨rb, 0, none⟩)] w fun e w' => e = gaveUp (toks.getD at_ default).line ∧ Ext w w' := give_any w h

set_option maxRecDepth 100000 in
set_option maxHeartbeats 2000000 in
theorem stmt_reads {toks : List Tok} {f : Nat} (ihe : Reads toks f (.expr 1)) (ihb : Reads toks f .block) (ihc : Reads toks f .choice)
    (iha : ∀ (w : World) (rb lb cap at_ N : Nat), RdAt w rb lb cap toks at_ → Gl N w → N ≤ rb → need toks.length at_ .assign ≤ f → (toks.getD at_ default).kind = 2 → Calls Tryz.prog 97 #[.pointer (some ⟨rb, 0, none⟩)] w (PPost w rb lb cap toks (pr toks f .assign at_)))
    (w : World) (rb lb cap at_ N : Nat) (h : RdAt w rb lb cap toks at_) (hG : Gl N w) (hN : N ≤ rb) (hf : need toks.length at_ .stmt ≤ f + 1) :
    Calls Tryz.prog 53 #[.pointer (some ⟨rb, 0, none⟩)] w (PPost w rb lb cap toks (pr toks (f + 1) .stmt at_)) := by
  have hal := h.at_lt
  have sr0 := h.sr
  have sl := h.sl
  simp only [need] at hf
  have hp := peek_any w h
  have hspec : pr toks (f + 1) .stmt at_ = (
    if (toks.getD at_ default).kind = 2 then pr toks f .assign at_
    else if isB (toks.getD at_ default) ⟨#[105, 102]⟩ then pr toks f .choice at_
    else if isB (toks.getD at_ default) ⟨#[123]⟩ then
      match pr toks f .block at_ with
      | .error n => .error n
      | .ok (b, a) => .ok (.stm 9 (toks.getD at_ default) .nil .nil b .nil false, a)
    else if isB (toks.getD at_ default) ⟨#[119, 104, 105, 108, 101]⟩ then
      match pr toks f (.expr 1) (at_ + 1) with
      | .error n => .error n
      | .ok (e, a) =>
        match pr toks f .block a with
        | .error n => .error n
        | .ok (b, c) => .ok (.stm 3 (toks.getD at_ default) e .nil b .nil false, c)
    else match simpleOf (toks.getD at_ default) with
      | none => .error (toks.getD at_ default).line
      | some (k, true) =>
        (match pr toks f (.expr 1) (at_ + 1) with
        | .error n => .error n
        | .ok (e, a) => if isB (toks.getD a default) ⟨#[59]⟩ then .ok (.stm k (toks.getD at_ default) e .nil .nil .nil false, a + 1) else .error (toks.getD a default).line)
      | some (k, false) => if isB (toks.getD (at_ + 1) default) ⟨#[59]⟩ then .ok (.stm k (toks.getD at_ default) .nil .nil .nil .nil false, at_ + 1 + 1) else .error (toks.getD (at_ + 1) default).line) := rfl
  generalize pr toks (f + 1) .stmt at_ = R at *
  have HS := Lib.hid hspec
  have HG := Lib.hid hG
  have HIe := Lib.hid ihe
  have HIb := Lib.hid ihb
  have HIc := Lib.hid ihc
  have HIa := Lib.hid iha
  have HK0 := Lib.hid (Kp.refl rb w)
  have HR0 := Lib.hid h
  clear hspec ihe ihb ihc iha hG h
  by_cases hk2 : (toks.getD at_ default).kind = 2
  · have hr2 := hk2
    replace HS := HS.out
    rw [if_pos hk2] at HS
    replace HS := Lib.hid HS
    have hia := fun w' (hR : RdAt w' rb lb cap toks at_) (hGl : Gl N w') => HIa.out w' rb lb cap at_ N hR hGl hN (by simp only [need]; omega) hr2
    rw [HS.out]
    clear hr2
    have HPA := Lib.hid hia
    clear hia
    generalize (toks.getD at_ default) = t at *
    obtain ⟨kind, text, line, num⟩ := t
    simp only at hk2
    subst hk2
    go_enter Tryz.func53, Tryz.ntmps53
    go_wp2_with fail
    refine hp.mono ?_
    rintro e w1 ⟨rfl, hb⟩
    have x1 := hb.size
    go_wp2_with fail
    have HKa := Lib.hid ((HK0.out.ext hb).alloc (.cells #[.int .i64 2, .string text, .int .i64 line, .int .u32 num] 69))
    refine (HPA.out _ ((HR0.out.keep hb).alloc _) ((HG.out.ext hb).ext ((Ext.refl _).alloc _))).mono ?_
    intro e w2 hpost
    cases hx : pr toks f .assign at_ with
    | error ln =>
      rw [hx] at hpost
      obtain ⟨rfl, hk⟩ := hpost
      exact ⟨rfl, rfl, HKa.out.trans hk⟩
    | ok r =>
      obtain ⟨x, a⟩ := r
      rw [hx] at hpost
      obtain ⟨v, rfl, hk, hr, ha⟩ := hpost
      go_wp2_with fail
      go_ret
      have x2 := hk.size
      simp only [szA] at x2 ha
      try rw [hx]
      exact ⟨_, rfl, HKa.out.trans hk, hr, ha.wide (by omega) (Nat.le_refl _)⟩
  have e2 : (((toks.getD at_ default).kind : Int) == 2) = false := by rw [beq_eq_false_iff_ne]; omega
  replace HS := HS.out
  rw [if_neg hk2] at HS
  replace HS := Lib.hid HS
  have hqi := fun w' (hR : RdAt w' rb lb cap toks at_) => is_any w' ⟨#[105, 102]⟩ hR
  have hqb := fun w' (hR : RdAt w' rb lb cap toks at_) => is_any w' ⟨#[123]⟩ hR
  have HQI := Lib.hid hqi
  have HQB := Lib.hid hqb
  clear hqi hqb hk2
  cases hif : isB (toks.getD at_ default) ⟨#[105, 102]⟩ with
  | true =>
    replace HS := HS.out
    rw [if_pos hif] at HS
    replace HS := Lib.hid HS
    rw [HS.out]
    have hqi := HQI.out
    rw [hif] at hqi
    clear hif
    generalize (toks.getD at_ default) = t at *
    obtain ⟨kind, text, line, num⟩ := t
    simp only at e2
    go_enter Tryz.func53, Tryz.ntmps53
    go_wp2_with fail
    refine hp.mono ?_
    rintro e w1 ⟨rfl, hb⟩
    have x1 := hb.size
    have HK1 := Lib.hid (HK0.out.ext hb)
    have HR1 := Lib.hid (HR0.out.keep hb)
    clear hb
    go_wp2_with fail
    have HK1s := Lib.hid (HK1.out.alloc (.cells #[.int .i64 kind, .string text, .int .i64 line, .int .u32 num] 69))
    have HR1s := Lib.hid (HR1.out.alloc (.cells #[.int .i64 kind, .string text, .int .i64 line, .int .u32 num] 69))
    refine (hqi _ HR1s.out).mono ?_
    rintro e w2 ⟨rfl, hb⟩
    have x2 := hb.size
    try simp only [szA] at x2
    have HE2 : Hid (w2.heap[w1.heap.size]? = some (.cells #[.int .i64 kind, .string text, .int .i64 line, .int .u32 num] 69 (0, 0))) := by
      show _ = _
      rw [hb.block _ (by first | omega | (simp only [szA]; omega)), heapA, if_pos rfl] <;> rfl
    have HK2 := Lib.hid (HK1s.out.ext hb)
    have HR2 := Lib.hid (HR1s.out.keep hb)
    obtain ⟨q21, q22, q23⟩ := cells_of_heap HE2.out
    clear hb
    go_wp2_with fail
    have hi := HIc.out _ rb lb cap at_ N HR2.out (HG.out.kp hN HK2.out) hN (by simp only [need]; omega)
    simp only [fnOf, argsOf] at hi
    refine hi.mono ?_
    intro e w3 hpost
    cases hx : pr toks f .choice at_ with
    | error ln =>
      rw [hx] at hpost
      obtain ⟨rfl, hk⟩ := hpost
      refine ⟨rfl, ?_⟩
      try rw [hx]
      exact ⟨rfl, HK2.out.trans hk⟩
    | ok r =>
      obtain ⟨x, a⟩ := r
      rw [hx] at hpost
      obtain ⟨v, rfl, hk, hr, ha⟩ := hpost
      go_wp2_with fail
      go_ret
      have x3 := hk.size
      try rw [hx]
      exact ⟨_, rfl, HK2.out.trans hk, hr, ha.wide (by omega) (Nat.le_refl _)⟩
  | false =>
    replace HS := HS.out
    rw [if_neg (by rw [hif]; simp)] at HS
    replace HS := Lib.hid HS
    have hqi := HQI.out
    rw [hif] at hqi
    clear hif HQI
    have HQI := Lib.hid hqi
    clear hqi
    cases hbr : isB (toks.getD at_ default) ⟨#[123]⟩ with
    | true =>
      replace HS := HS.out
      rw [if_pos hbr] at HS
      replace HS := Lib.hid HS
      have hqb := HQB.out
      rw [hbr] at hqb
      clear hbr
      generalize (toks.getD at_ default) = t at *
      obtain ⟨kind, text, line, num⟩ := t
      simp only at e2
      go_enter Tryz.func53, Tryz.ntmps53
      go_wp2_with fail
      refine hp.mono ?_
      rintro e w1 ⟨rfl, hb⟩
      have x1 := hb.size
      have HK1 := Lib.hid (HK0.out.ext hb)
      have HR1 := Lib.hid (HR0.out.keep hb)
      clear hb
      go_wp2_with fail
      have HK1s := Lib.hid (HK1.out.alloc (.cells #[.int .i64 kind, .string text, .int .i64 line, .int .u32 num] 69))
      have HR1s := Lib.hid (HR1.out.alloc (.cells #[.int .i64 kind, .string text, .int .i64 line, .int .u32 num] 69))
      refine (HQI.out _ HR1s.out).mono ?_
      rintro e w2 ⟨rfl, hb⟩
      have x2 := hb.size
      try simp only [szA] at x2
      have HE2 : Hid (w2.heap[w1.heap.size]? = some (.cells #[.int .i64 kind, .string text, .int .i64 line, .int .u32 num] 69 (0, 0))) := by
        show _ = _
        rw [hb.block _ (by first | omega | (simp only [szA]; omega)), heapA, if_pos rfl] <;> rfl
      have HK2 := Lib.hid (HK1s.out.ext hb)
      have HR2 := Lib.hid (HR1s.out.keep hb)
      obtain ⟨q21, q22, q23⟩ := cells_of_heap HE2.out
      clear hb
      go_wp2_with fail
      refine (hqb _ HR2.out).mono ?_
      rintro e w3 ⟨rfl, hb⟩
      have x3 := hb.size
      try simp only [szS, szA, szD] at x3
      have HE3 : Hid (w3.heap[w1.heap.size]? = some (.cells #[.int .i64 kind, .string text, .int .i64 line, .int .u32 num] 69 (0, 0))) := by
        show _ = _
        rw [hb.block _ (by first | omega | (simp only [szS, szA, szD]; omega)), HE2.out]
      have HK3 := Lib.hid (HK2.out.ext hb)
      have HR3 := Lib.hid (HR2.out.keep hb)
      obtain ⟨q31, q32, q33⟩ := cells_of_heap HE3.out
      clear hb q21 q22
      go_wp2_with fail
      have hi := HIb.out w3.drew rb lb cap (at_) N HR3.out.drew ((HG.out.kp hN HK3.out).ext ((Ext.refl _).drew)) hN (by simp only [need]; omega)
      simp only [fnOf, argsOf] at hi
      cases hx : pr toks f (.block) (at_) with
      | error ln =>
        replace HS := HS.out
        rw [hx] at HS
        dsimp only at HS
        replace HS := Lib.hid HS
        rw [hx] at hi
        rw [HS.out]
        have HX := Lib.hid hi
        clear hi hx
        refine wp_region_plan (fun w' => w'.heap[w1.heap.size]? = some (.cells #[.int .i64 kind, .string text, .int .i64 line, .int .u32 num] 69 (0, 0)))
          [(0, true), (1, true), (2, false)] false (by kernel_rfl) (by kernel_rfl) (fun c a d v w h => by cases d <;> exact h) HE3.out ?_
        iterate 2 (refine ⟨_, ?_, rfl, Or.inl ⟨by rfl, ?_⟩, ?_⟩; rotate_left; (· intro w' hSw; obtain ⟨sw1, sw2, sw3⟩ := cells_of_heap hSw; go_simp; (try with_reducible rfl)); simp only [Act.put, List.setIfInBounds_toArray, List.set_cons_zero, List.set_cons_succ, List.getElem_toArray, List.getElem_cons_zero, List.getElem_cons_succ])
        refine wpPlan_act rfl (by rfl) (fun K hK => ?_)
        go_simp
        refine HX.out.mono ?_
        rintro e' w9 ⟨rfl, hk9⟩
        exact ⟨rfl, rfl, HK3.out.trans (((Ext.refl _).drew.kp rb).trans hk9)⟩
      | ok r =>
        obtain ⟨tb, ab⟩ := r
        have hXb := pr_isBlk toks f _ _ _ hx
        have hLb := pr_least toks f _ _ _ _ hx
        simp only [What.least] at hLb
        rw [hx] at hi
        replace HS := HS.out
        rw [hx] at HS
        dsimp only at HS
        replace HS := Lib.hid HS
        have HX := Lib.hid hi
        clear hi hx
        refine wp_region_plan (fun w' => w'.heap[w1.heap.size]? = some (.cells #[.int .i64 kind, .string text, .int .i64 line, .int .u32 num] 69 (0, 0)))
          [(0, true), (1, true), (2, false), (3, true), (4, false), (5, true)] true (by kernel_rfl) (by kernel_rfl) (fun c a d v w h => by cases d <;> exact h) HE3.out ?_
        iterate 2 (refine ⟨_, ?_, rfl, Or.inl ⟨by rfl, ?_⟩, ?_⟩; rotate_left; (· intro w' hSw; obtain ⟨sw1, sw2, sw3⟩ := cells_of_heap hSw; go_simp; (try with_reducible rfl)); simp only [Act.put, List.setIfInBounds_toArray, List.set_cons_zero, List.set_cons_succ, List.getElem_toArray, List.getElem_cons_zero, List.getElem_cons_succ])
        refine wpPlan_act rfl (by rfl) (fun K hK => ?_)
        go_simp
        refine HX.out.mono ?_
        rintro e' w4 ⟨v4, rfl, hk, hr, ha⟩
        obtain ⟨b4, rfl, b41, b42⟩ := ha.ptr_blk hXb
        have x4 := hk.size
        simp only [szD] at x4 b41 ha
        have HE4 : Hid (w4.heap[w1.heap.size]? = some (.cells #[.int .i64 kind, .string text, .int .i64 line, .int .u32 num] 69 (0, 0))) := by
          show _ = _
          rw [hk.heap _ (by rw [szD]; omega) (by omega), heapD, HE3.out]
        have HK4 := Lib.hid (HK3.out.trans (((Ext.refl _).drew.kp rb).trans hk))
        have HR4 := Lib.hid hr
        have HAb_4 := Lib.hid ha
        clear hk hr ha
        refine hK _ _ (fun _ => HE4.out) ?_
        clear hK K
        try simp only [Act.put, List.setIfInBounds_toArray, List.set_cons_zero, List.set_cons_succ, List.getElem_toArray, List.getElem_cons_zero, List.getElem_cons_succ]
        (refine ⟨_, ?_, rfl, Or.inl ⟨by rfl, ?_⟩, ?_⟩; rotate_left; (· intro w' hSw; obtain ⟨sw1, sw2, sw3⟩ := cells_of_heap hSw; go_simp; (try with_reducible rfl)); simp only [Act.put, List.setIfInBounds_toArray, List.set_cons_zero, List.set_cons_succ, List.getElem_toArray, List.getElem_cons_zero, List.getElem_cons_succ])
        refine wpPlan_act rfl (by rfl) (fun K hK => ?_)
        go_simp
        refine hK _ _ (fun _ => by rw [heapA, if_neg (by omega), HE4.out]) ?_
        clear hK K
        try simp only [Act.put, List.setIfInBounds_toArray, List.set_cons_zero, List.set_cons_succ, List.getElem_toArray, List.getElem_cons_zero, List.getElem_cons_succ]
        (refine ⟨_, ?_, rfl, Or.inl ⟨by rfl, ?_⟩, ?_⟩; rotate_left; (· intro w' hSw; obtain ⟨sw1, sw2, sw3⟩ := cells_of_heap hSw; go_simp; (try with_reducible rfl)); simp only [Act.put, List.setIfInBounds_toArray, List.set_cons_zero, List.set_cons_succ, List.getElem_toArray, List.getElem_cons_zero, List.getElem_cons_succ])
        refine ⟨rfl, ?_⟩
        go_wp2_with fail
        have HK4s := Lib.hid (HK4.out.alloc (.cells #[.int .i64 9, .int .i64 kind, .string text, .int .i64 line, .int .u32 num, .pointer none, .pointer none, .pointer (some ⟨b4, 0, none⟩), .pointer none, .bool false] 150))
        have HR4s := Lib.hid (HR4.out.alloc (.cells #[.int .i64 9, .int .i64 kind, .string text, .int .i64 line, .int .u32 num, .pointer none, .pointer none, .pointer (some ⟨b4, 0, none⟩), .pointer none, .bool false] 150))
        have HAb_4s := Lib.hid (HAb_4.out.kp (((Ext.refl w4).alloc (.cells #[.int .i64 9, .int .i64 kind, .string text, .int .i64 line, .int .u32 num, .pointer none, .pointer none, .pointer (some ⟨b4, 0, none⟩), .pointer none, .bool false] 150)).kp rb) (by omega) (by omega))
        go_ret
        rw [HS.out]
        refine ⟨_, rfl, HK4s.out, HR4s.out, AstAt.stm1 (by first | omega | (simp only [szS, szA, szD]; omega)) (by first | omega | (simp only [szA]; omega)) (by rw [heapA, if_pos rfl] <;> rfl) ?_ ?_ ?_ ?_⟩
        · exact rfl
        · exact rfl
        · exact HAb_4s.out.wide (by first | omega | (simp only [szS, szA, szD]; omega)) (by first | omega | (simp only [szA]; omega))
        · exact rfl
    | false =>
      replace HS := HS.out
      rw [if_neg (by rw [hbr]; simp)] at HS
      replace HS := Lib.hid HS
      have hqb := HQB.out
      rw [hbr] at hqb
      clear hbr HQB
      have HQB := Lib.hid hqb
      clear hqb
      cases hwh : isB (toks.getD at_ default) ⟨#[119, 104, 105, 108, 101]⟩ with
      | true =>
        replace HS := HS.out
        rw [if_pos hwh] at HS
        replace HS := Lib.hid HS
        have hqw := fun w' (hR : RdAt w' rb lb cap toks at_) => may_yes w' _ hR hwh
        have HQW := Lib.hid hqw
        clear hwh hqw
        generalize (toks.getD at_ default) = t at *
        obtain ⟨kind, text, line, num⟩ := t
        simp only at e2
        go_enter Tryz.func53, Tryz.ntmps53
        go_wp2_with fail
        refine hp.mono ?_
        rintro e w1 ⟨rfl, hb⟩
        have x1 := hb.size
        have HK1 := Lib.hid (HK0.out.ext hb)
        have HR1 := Lib.hid (HR0.out.keep hb)
        clear hb
        go_wp2_with fail
        have HK1s := Lib.hid (HK1.out.alloc (.cells #[.int .i64 kind, .string text, .int .i64 line, .int .u32 num] 69))
        have HR1s := Lib.hid (HR1.out.alloc (.cells #[.int .i64 kind, .string text, .int .i64 line, .int .u32 num] 69))
        refine (HQI.out _ HR1s.out).mono ?_
        rintro e w2 ⟨rfl, hb⟩
        have x2 := hb.size
        try simp only [szA] at x2
        have HE2 : Hid (w2.heap[w1.heap.size]? = some (.cells #[.int .i64 kind, .string text, .int .i64 line, .int .u32 num] 69 (0, 0))) := by
          show _ = _
          rw [hb.block _ (by first | omega | (simp only [szA]; omega)), heapA, if_pos rfl] <;> rfl
        have HK2 := Lib.hid (HK1s.out.ext hb)
        have HR2 := Lib.hid (HR1s.out.keep hb)
        obtain ⟨q21, q22, q23⟩ := cells_of_heap HE2.out
        clear hb
        go_wp2_with fail
        refine (HQB.out _ HR2.out).mono ?_
        rintro e w3 ⟨rfl, hb⟩
        have x3 := hb.size
        try simp only [szS, szA, szD] at x3
        have HE3 : Hid (w3.heap[w1.heap.size]? = some (.cells #[.int .i64 kind, .string text, .int .i64 line, .int .u32 num] 69 (0, 0))) := by
          show _ = _
          rw [hb.block _ (by first | omega | (simp only [szS, szA, szD]; omega)), HE2.out]
        have HK3 := Lib.hid (HK2.out.ext hb)
        have HR3 := Lib.hid (HR2.out.keep hb)
        obtain ⟨q31, q32, q33⟩ := cells_of_heap HE3.out
        clear hb q21 q22
        go_wp2_with fail
        refine (HQW.out _ HR3.out).mono ?_
        rintro e w4 ⟨rfl, hk, hr⟩
        have x4 := hk.size
        try simp only [szS, szA, szD] at x4
        have HE4 : Hid (w4.heap[w1.heap.size]? = some (.cells #[.int .i64 kind, .string text, .int .i64 line, .int .u32 num] 69 (0, 0))) := by
          show _ = _
          rw [hk.heap _ (by first | omega | (simp only [szS, szA, szD]; omega)) (by omega), HE3.out]
        have HK4 := Lib.hid (HK3.out.trans hk)
        have HR4 := Lib.hid hr
        obtain ⟨q41, q42, q43⟩ := cells_of_heap HE4.out
        clear hk hr q31 q32
        go_wp2_with fail
        have hi := HIe.out w4.drew rb lb cap (at_ + 1) N HR4.out.drew ((HG.out.kp hN HK4.out).ext ((Ext.refl _).drew)) hN (by simp only [need]; omega)
        simp only [fnOf, argsOf] at hi
        cases hx : pr toks f (.expr 1) (at_ + 1) with
        | error ln =>
          replace HS := HS.out
          rw [hx] at HS
          dsimp only at HS
          replace HS := Lib.hid HS
          rw [hx] at hi
          rw [HS.out]
          have HX := Lib.hid hi
          clear hi hx
          refine wp_region_plan (fun w' => w'.heap[w1.heap.size]? = some (.cells #[.int .i64 kind, .string text, .int .i64 line, .int .u32 num] 69 (0, 0)))
            [(0, true), (1, true), (2, false)] false (by kernel_rfl) (by kernel_rfl) (fun c a d v w h => by cases d <;> exact h) HE4.out ?_
          iterate 2 (refine ⟨_, ?_, rfl, Or.inl ⟨by rfl, ?_⟩, ?_⟩; rotate_left; (· intro w' hSw; obtain ⟨sw1, sw2, sw3⟩ := cells_of_heap hSw; go_simp; (try with_reducible rfl)); simp only [Act.put, List.setIfInBounds_toArray, List.set_cons_zero, List.set_cons_succ, List.getElem_toArray, List.getElem_cons_zero, List.getElem_cons_succ])
          refine wpPlan_act rfl (by rfl) (fun K hK => ?_)
          go_simp
          refine HX.out.mono ?_
          rintro e' w9 ⟨rfl, hk9⟩
          exact ⟨rfl, rfl, HK4.out.trans (((Ext.refl _).drew.kp rb).trans hk9)⟩
        | ok r =>
          obtain ⟨te, ae⟩ := r
          have hXe := pr_isExp toks f _ _ _ _ hx
          have hLe := pr_least toks f _ _ _ _ hx
          simp only [What.least] at hLe
          rw [hx] at hi
          replace HS := HS.out
          rw [hx] at HS
          dsimp only at HS
          replace HS := Lib.hid HS
          have HX := Lib.hid hi
          clear hi hx
          refine wp_region_plan (fun w' => w'.heap[w1.heap.size]? = some (.cells #[.int .i64 kind, .string text, .int .i64 line, .int .u32 num] 69 (0, 0)))
            [(0, true), (1, true), (2, false), (3, true), (4, false), (5, true)] true (by kernel_rfl) (by kernel_rfl) (fun c a d v w h => by cases d <;> exact h) HE4.out ?_
          iterate 2 (refine ⟨_, ?_, rfl, Or.inl ⟨by rfl, ?_⟩, ?_⟩; rotate_left; (· intro w' hSw; obtain ⟨sw1, sw2, sw3⟩ := cells_of_heap hSw; go_simp; (try with_reducible rfl)); simp only [Act.put, List.setIfInBounds_toArray, List.set_cons_zero, List.set_cons_succ, List.getElem_toArray, List.getElem_cons_zero, List.getElem_cons_succ])
          refine wpPlan_act rfl (by rfl) (fun K hK => ?_)
          go_simp
          refine HX.out.mono ?_
          rintro e' w5 ⟨v5, rfl, hk, hr, ha⟩
          obtain ⟨b5, rfl, b51, b52⟩ := ha.ptr_exp hXe
          have x5 := hk.size
          simp only [szD] at x5 b51 ha
          have HE5 : Hid (w5.heap[w1.heap.size]? = some (.cells #[.int .i64 kind, .string text, .int .i64 line, .int .u32 num] 69 (0, 0))) := by
            show _ = _
            rw [hk.heap _ (by rw [szD]; omega) (by omega), heapD, HE4.out]
          have HK5 := Lib.hid (HK4.out.trans (((Ext.refl _).drew.kp rb).trans hk))
          have HR5 := Lib.hid hr
          have HAe_5 := Lib.hid ha
          clear hk hr ha
          refine hK _ _ (fun _ => HE5.out) ?_
          clear hK K
          try simp only [Act.put, List.setIfInBounds_toArray, List.set_cons_zero, List.set_cons_succ, List.getElem_toArray, List.getElem_cons_zero, List.getElem_cons_succ]
          (refine ⟨_, ?_, rfl, Or.inl ⟨by rfl, ?_⟩, ?_⟩; rotate_left; (· intro w' hSw; obtain ⟨sw1, sw2, sw3⟩ := cells_of_heap hSw; go_simp; (try with_reducible rfl)); simp only [Act.put, List.setIfInBounds_toArray, List.set_cons_zero, List.set_cons_succ, List.getElem_toArray, List.getElem_cons_zero, List.getElem_cons_succ])
          refine wpPlan_act rfl (by rfl) (fun K hK => ?_)
          go_simp
          refine hK _ _ (fun _ => by rw [heapA, if_neg (by omega), HE5.out]) ?_
          clear hK K
          try simp only [Act.put, List.setIfInBounds_toArray, List.set_cons_zero, List.set_cons_succ, List.getElem_toArray, List.getElem_cons_zero, List.getElem_cons_succ]
          (refine ⟨_, ?_, rfl, Or.inl ⟨by rfl, ?_⟩, ?_⟩; rotate_left; (· intro w' hSw; obtain ⟨sw1, sw2, sw3⟩ := cells_of_heap hSw; go_simp; (try with_reducible rfl)); simp only [Act.put, List.setIfInBounds_toArray, List.set_cons_zero, List.set_cons_succ, List.getElem_toArray, List.getElem_cons_zero, List.getElem_cons_succ])
          refine ⟨rfl, ?_⟩
          go_wp2_with fail
          have HK5s := Lib.hid (HK5.out.alloc (.cells #[.int .i64 3, .int .i64 kind, .string text, .int .i64 line, .int .u32 num, .pointer (some ⟨b5, 0, none⟩), .pointer none, .pointer none, .pointer none, .bool false] 150))
          have HR5s := Lib.hid (HR5.out.alloc (.cells #[.int .i64 3, .int .i64 kind, .string text, .int .i64 line, .int .u32 num, .pointer (some ⟨b5, 0, none⟩), .pointer none, .pointer none, .pointer none, .bool false] 150))
          have HAe_5s := Lib.hid (HAe_5.out.kp (((Ext.refl w5).alloc (.cells #[.int .i64 3, .int .i64 kind, .string text, .int .i64 line, .int .u32 num, .pointer (some ⟨b5, 0, none⟩), .pointer none, .pointer none, .pointer none, .bool false] 150)).kp rb) (by omega) (by omega))
          have hi5 := HIb.out _ rb lb cap (ae) N HR5s.out (HG.out.kp hN HK5s.out) hN (by simp only [need]; omega)
          simp only [fnOf, argsOf] at hi5
          cases hx5 : pr toks f (.block) (ae) with
          | error ln =>
            replace HS := HS.out
            rw [hx5] at HS
            dsimp only at HS
            replace HS := Lib.hid HS
            rw [hx5] at hi5
            refine (hi5).mono ?_
            rintro e wz ⟨rfl, hk⟩
            refine ⟨rfl, ?_⟩
            show PPost w rb lb cap toks R _ _
            rw [HS.out]
            exact ⟨rfl, HK5s.out.trans hk⟩
          | ok r5 =>
            obtain ⟨tb, ab⟩ := r5
            have hXb := pr_isBlk toks f _ _ _ hx5
            have hLb := pr_least toks f _ _ _ _ hx5
            simp only [What.least] at hLb
            rw [hx5] at hi5
            replace HS := HS.out
            rw [hx5] at HS
            dsimp only at HS
            replace HS := Lib.hid HS
            clear hx5
            refine (hi5).mono ?_
            rintro e w6 ⟨v6, rfl, hk, hr, ha⟩
            obtain ⟨b6, rfl, b61, b62⟩ := ha.ptr_blk hXb
            have x6 := hk.size
            try simp only [szA] at x6 b61 ha
            have HE6 : Hid (w6.heap[w5.heap.size]? = some (.cells #[.int .i64 3, .int .i64 kind, .string text, .int .i64 line, .int .u32 num, .pointer (some ⟨b5, 0, none⟩), .pointer none, .pointer none, .pointer none, .bool false] 150 (0, 0))) := by
              show _ = _
              rw [hk.heap _ (by first | omega | (simp only [szA]; omega)) (by omega), heapA, if_pos rfl] <;> rfl
            have HK6 := Lib.hid (HK5s.out.trans hk)
            have HR6 := Lib.hid hr
            have HAe_6 := Lib.hid (HAe_5s.out.kp hk (by omega) (by first | omega | (simp only [szA]; omega)))
            have HAb_6 := Lib.hid ha
            obtain ⟨q61, q62, q63⟩ := cells_of_heap HE6.out
            clear hk hr ha
            go_wp2_with fail
            have HR6s := Lib.hid (HR6.out.setCell (p := ⟨w5.heap.size, 7, none⟩) (by simp only []; omega) (by simp only []; omega) (.pointer (some ⟨b6, 0, none⟩)))
            have HK6s := Lib.hid (HK6.out.setCell (p := ⟨w5.heap.size, 7, none⟩) (.inr (by simp only []; omega)) (.pointer (some ⟨b6, 0, none⟩)))
            have HAe_6s := Lib.hid (HAe_6.out.set (p := ⟨w5.heap.size, 7, none⟩) (by simp only []; omega) (.pointer (some ⟨b6, 0, none⟩)))
            have HAb_6s := Lib.hid (HAb_6.out.set (p := ⟨w5.heap.size, 7, none⟩) (by simp only []; omega) (.pointer (some ⟨b6, 0, none⟩)))
            go_ret
            rw [HS.out]
            refine ⟨_, rfl, HK6s.out, HR6s.out, AstAt.stm1 (by first | omega | (simp only [szS, szA, szD]; omega)) (by first | omega | (simp only [szS]; omega)) (by rw [heapS, if_pos rfl, HE6.out] <;> rfl) ?_ ?_ ?_ ?_⟩
            · exact HAe_6s.out.wide (by first | omega | (simp only [szS, szA, szD]; omega)) (by first | omega | (simp only [szS]; omega))
            · exact rfl
            · exact HAb_6s.out.wide (by first | omega | (simp only [szS, szA, szD]; omega)) (by first | omega | (simp only [szS]; omega))
            · exact rfl
      | false =>
        replace HS := HS.out
        rw [if_neg (by rw [hwh]; simp)] at HS
        replace HS := Lib.hid HS
        have hqw := fun w' (hR : RdAt w' rb lb cap toks at_) => may_no w' _ hR hwh
        have HQW := Lib.hid hqw
        clear hwh hqw
        have HT := Lib.hid (fun (k : Nat) (hk : k < 5) (w' : World) (hR : RdAt w' rb lb cap toks at_) => may_no w' ⟨(simpleT.getD k default).1.toArray⟩ hR)
        have HY := Lib.hid (fun (k : Nat) (hk : k < 5) (w' : World) (hR : RdAt w' rb lb cap toks at_) => may_yes w' ⟨(simpleT.getD k default).1.toArray⟩ hR)
        have HGV := Lib.hid (fun w' => hp_give w' (rb := rb) (lb := lb) (cap := cap) (toks := toks) (at_ := at_))
        generalize hsim : simpleOf (toks.getD at_ default) = so at *
        have hs5 : simpleIn (toks.getD at_ default) (simpleT.drop 0) = so := hsim
        clear hsim
        generalize (toks.getD at_ default) = t at *
        obtain ⟨kind, text, line, num⟩ := t
        simp only at e2
        have HS5 := Lib.hid hs5
        clear hs5
        go_enter Tryz.func53, Tryz.ntmps53
        go_wp2_with fail
        refine hp.mono ?_
        rintro e w1 ⟨rfl, hb⟩
        have x1 := hb.size
        have HK1 := Lib.hid (HK0.out.ext hb)
        have HR1 := Lib.hid (HR0.out.keep hb)
        clear hb
        go_wp2_with fail
        have HK1s := Lib.hid (HK1.out.alloc (.cells #[.int .i64 kind, .string text, .int .i64 line, .int .u32 num] 69))
        have HR1s := Lib.hid (HR1.out.alloc (.cells #[.int .i64 kind, .string text, .int .i64 line, .int .u32 num] 69))
        refine (HQI.out _ HR1s.out).mono ?_
        rintro e w2 ⟨rfl, hb⟩
        have x2 := hb.size
        try simp only [szA] at x2
        have HE2 : Hid (w2.heap[w1.heap.size]? = some (.cells #[.int .i64 kind, .string text, .int .i64 line, .int .u32 num] 69 (0, 0))) := by
          show _ = _
          rw [hb.block _ (by first | omega | (simp only [szA]; omega)), heapA, if_pos rfl] <;> rfl
        have HK2 := Lib.hid (HK1s.out.ext hb)
        have HR2 := Lib.hid (HR1s.out.keep hb)
        obtain ⟨q21, q22, q23⟩ := cells_of_heap HE2.out
        clear hb
        go_wp2_with fail
        refine (HQB.out _ HR2.out).mono ?_
        rintro e w3 ⟨rfl, hb⟩
        have x3 := hb.size
        try simp only [szS, szA, szD] at x3
        have HE3 : Hid (w3.heap[w1.heap.size]? = some (.cells #[.int .i64 kind, .string text, .int .i64 line, .int .u32 num] 69 (0, 0))) := by
          show _ = _
          rw [hb.block _ (by first | omega | (simp only [szS, szA, szD]; omega)), HE2.out]
        have HK3 := Lib.hid (HK2.out.ext hb)
        have HR3 := Lib.hid (HR2.out.keep hb)
        obtain ⟨q31, q32, q33⟩ := cells_of_heap HE3.out
        clear hb q21 q22
        go_wp2_with fail
        have hpk := HQW.out _ HR3.out
        refine hpk.mono ?_
        rintro e w4 ⟨rfl, hb⟩
        have x4 := hb.size
        have HE4 : Hid (w4.heap[w1.heap.size]? = some (.cells #[.int .i64 kind, .string text, .int .i64 line, .int .u32 num] 69 (0, 0))) := by
          show _ = _
          rw [hb.block _ (by omega), HE3.out]
        have HK4 := Lib.hid (HK3.out.ext hb)
        have HR4 := Lib.hid (HR3.out.keep hb)
        clear hb
        clear q31 q32
        have hgs := (HG.out.kp hN HK4.out).simple
        have hix := simple_index
        generalize hV : simpleV = V at *
        have hlen : V.length = 15 := by rw [← hV]; rfl
        go_wp2_with (refine wpList_load_cells rfl 193 _ rfl 1 rfl V (.array 5 192) hgs (by kernel_rfl) rfl (by rw [hlen]; kernel_rfl) ?_)
        clear hgs
        go_loopw [44] (fun v wr => ∃ k : Nat, k ≤ 5 ∧ v = .int .i64 k ∧ Ext w4 wr ∧ simpleIn ⟨kind, text, line, num⟩ (simpleT.drop k) = so) (fun v _ => 5 - (intOf v).toNat)
        case atStart => exact ⟨0, by omega, rfl, Ext.refl _, HS5.out⟩
        case round =>
          obtain ⟨k, hk, rfl, hb5, hsk⟩ := hrel
          obtain ⟨w5, rfl⟩ : ∃ x : World, x = wr := ⟨_, rfl⟩
          have x5 := hb5.size
          have HE5 : Hid (w5.heap[w1.heap.size]? = some (.cells #[.int .i64 kind, .string text, .int .i64 line, .int .u32 num] 69 (0, 0))) := by
            show _ = _
            rw [hb5.block _ (by omega), HE4.out]
          have HK5 := Lib.hid (HK4.out.ext hb5)
          have HR5 := Lib.hid (HR4.out.keep hb5)
          have HB5 := Lib.hid hb5
          clear hb5
          by_cases hlt : k < 5
          · have hd := simpleIn_drop ⟨kind, text, line, num⟩ k hlt
            have hx := hix k hlt
            have hno := HT.out k hlt
            have hye := HY.out k hlt
            clear hix
            generalize simpleT.getD k default = x at *
            obtain ⟨x1, x2, x3⟩ := x
            simp only at hd hx hno hye
            cases hiw : isB ⟨kind, text, line, num⟩ ⟨x1.toArray⟩ with
            | false =>
              rw [hiw] at hd
              have HD := Lib.hid (hd.symm.trans hsk)
              clear hd hsk
              go_wp2_with fail
              refine (hno _ (HR5.out.alloc _) hiw).mono ?_
              rintro e w6 ⟨rfl, hb6⟩
              go_wp2_with fail
              exact ⟨⟨k + 1, by omega, by go_num, (HB5.out.alloc _).trans hb6, HD.out⟩, by simp [intOf]; omega⟩
            | true =>
              have HSO : Hid (so = some (x2, x3)) := by
                show _ = _
                rw [← hsk, hd, hiw]; rfl
              clear hd hsk
              go_wp2_with fail
              have HK5s := Lib.hid (HK5.out.alloc (.cells #[.string ⟨x1.toArray⟩, .int .i64 x2, .bool x3] 192))
              have HR5s := Lib.hid (HR5.out.alloc (.cells #[.string ⟨x1.toArray⟩, .int .i64 x2, .bool x3] 192))
              refine (hye _ HR5s.out hiw).mono ?_
              rintro e w6 ⟨rfl, hk6, hr6⟩
              have x6 := hk6.size
              simp only [szA] at x6
              have HE6 : Hid (w6.heap[w1.heap.size]? = some (.cells #[.int .i64 kind, .string text, .int .i64 line, .int .u32 num] 69 (0, 0))) := by
                show _ = _
                rw [hk6.heap _ (by rw [szA]; omega) (by omega), heapA, if_neg (by omega), HE5.out]
              have HV6 : Hid (w6.heap[w5.heap.size]? = some (.cells #[.string ⟨x1.toArray⟩, .int .i64 x2, .bool x3] 192 (0, 0))) := by
                show _ = _
                rw [hk6.heap _ (by rw [szA]; omega) (by omega), heapA, if_pos rfl]
              have HK6 := Lib.hid (HK5s.out.trans hk6)
              have HR6 := Lib.hid hr6
              clear hk6 hr6
              obtain ⟨q61, q62, q63⟩ := cells_of_heap HE6.out
              obtain ⟨r61, r62, r63⟩ := cells_of_heap HV6.out
              cases x3 with
              | true =>
                replace HS := HS.out
                rw [HSO.out] at HS
                dsimp only at HS
                replace HS := Lib.hid HS
                go_wp2_with fail
                have HK6s := Lib.hid (HK6.out.alloc (.cells #[.int .i64 x2, .int .i64 kind, .string text, .int .i64 line, .int .u32 num, .pointer none, .pointer none, .pointer none, .pointer none, .bool false] 150))
                have HR6s := Lib.hid (HR6.out.alloc (.cells #[.int .i64 x2, .int .i64 kind, .string text, .int .i64 line, .int .u32 num, .pointer none, .pointer none, .pointer none, .pointer none, .bool false] 150))
                have hi6 := HIe.out _ rb lb cap (at_ + 1) N HR6s.out (HG.out.kp hN HK6s.out) hN (by simp only [need]; omega)
                simp only [fnOf, argsOf] at hi6
                cases hx6 : pr toks f (.expr 1) (at_ + 1) with
                | error ln =>
                  replace HS := HS.out
                  rw [hx6] at HS
                  dsimp only at HS
                  replace HS := Lib.hid HS
                  rw [hx6] at hi6
                  refine (hi6).mono ?_
                  rintro e wz ⟨rfl, hk⟩
                  refine ⟨rfl, ?_⟩
                  show PPost w rb lb cap toks R _ _
                  rw [HS.out]
                  exact ⟨rfl, HK6s.out.trans hk⟩
                | ok r6 =>
                  obtain ⟨te, ae⟩ := r6
                  have hXe := pr_isExp toks f _ _ _ _ hx6
                  have hLe := pr_least toks f _ _ _ _ hx6
                  simp only [What.least] at hLe
                  rw [hx6] at hi6
                  replace HS := HS.out
                  rw [hx6] at HS
                  dsimp only at HS
                  replace HS := Lib.hid HS
                  clear hx6
                  refine (hi6).mono ?_
                  rintro e w7 ⟨v7, rfl, hk, hr, ha⟩
                  obtain ⟨b7, rfl, b71, b72⟩ := ha.ptr_exp hXe
                  have x7 := hk.size
                  try simp only [szA] at x7 b71 ha
                  have HE7 : Hid (w7.heap[w6.heap.size]? = some (.cells #[.int .i64 x2, .int .i64 kind, .string text, .int .i64 line, .int .u32 num, .pointer none, .pointer none, .pointer none, .pointer none, .bool false] 150 (0, 0))) := by
                    show _ = _
                    rw [hk.heap _ (by first | omega | (simp only [szA]; omega)) (by omega), heapA, if_pos rfl] <;> rfl
                  have HK7 := Lib.hid (HK6s.out.trans hk)
                  have HR7 := Lib.hid hr
                  have HAe_7 := Lib.hid ha
                  obtain ⟨q71, q72, q73⟩ := cells_of_heap HE7.out
                  clear hk hr ha
                  go_wp2_with fail
                  have HR7s := Lib.hid (HR7.out.setCell (p := ⟨w6.heap.size, 5, none⟩) (by simp only []; omega) (by simp only []; omega) (.pointer (some ⟨b7, 0, none⟩)))
                  have HK7s := Lib.hid (HK7.out.setCell (p := ⟨w6.heap.size, 5, none⟩) (.inr (by simp only []; omega)) (.pointer (some ⟨b7, 0, none⟩)))
                  have HAe_7s := Lib.hid (HAe_7.out.set (p := ⟨w6.heap.size, 5, none⟩) (by simp only []; omega) (.pointer (some ⟨b7, 0, none⟩)))
                  cases hc7 : isB (toks.getD (ae) default) ⟨#[59]⟩ with
                  | false =>
                    replace HS := HS.out
                    rw [if_neg (by rw [hc7]; simp)] at HS
                    replace HS := Lib.hid HS
                    refine (want_bad _ _ HR7s.out hc7).mono ?_
                    rintro e wz ⟨rfl, hb⟩
                    refine ⟨rfl, ?_⟩
                    show PPost w rb lb cap toks R _ _
                    rw [HS.out]
                    exact ⟨rfl, HK7s.out.ext hb⟩
                  | true =>
                    replace HS := HS.out
                    rw [if_pos hc7] at HS
                    replace HS := Lib.hid HS
                    refine (want_ok _ _ HR7s.out hc7).mono ?_
                    rintro e w8 ⟨rfl, hk, hr⟩
                    have x8 := hk.size
                    try simp only [szS] at x8
                    have HE8 : Hid (w8.heap[w6.heap.size]? = some (.cells #[.int .i64 x2, .int .i64 kind, .string text, .int .i64 line, .int .u32 num, .pointer (some ⟨b7, 0, none⟩), .pointer none, .pointer none, .pointer none, .bool false] 150 (0, 0))) := by
                      show _ = _
                      rw [hk.heap _ (by first | omega | (simp only [szS]; omega)) (by omega), heapS, if_pos rfl, HE7.out] <;> rfl
                    have HK8 := Lib.hid (HK7s.out.trans hk)
                    have HR8 := Lib.hid hr
                    have HAe_8 := Lib.hid (HAe_7s.out.kp hk (by omega) (by first | omega | (simp only [szS]; omega)))
                    obtain ⟨q81, q82, q83⟩ := cells_of_heap HE8.out
                    clear hk hr q71 q72
                    go_wp2_with fail
                    go_ret
                    rw [HS.out]
                    refine ⟨_, rfl, HK8.out, HR8.out, AstAt.stm1 (by first | omega | (simp only [szS, szA, szD]; omega)) (by first | omega | (simp only [szS, szA, szD]; omega)) HE8.out ?_ ?_ ?_ ?_⟩
                    · exact HAe_8.out.wide (by first | omega | (simp only [szS, szA, szD]; omega)) (by first | omega | (simp only [szS, szA, szD]; omega))
                    · exact rfl
                    · exact rfl
                    · exact rfl
              | false =>
                replace HS := HS.out
                rw [HSO.out] at HS
                dsimp only at HS
                replace HS := Lib.hid HS
                go_wp2_with fail
                have HK6s := Lib.hid (HK6.out.alloc (.cells #[.int .i64 x2, .int .i64 kind, .string text, .int .i64 line, .int .u32 num, .pointer none, .pointer none, .pointer none, .pointer none, .bool false] 150))
                have HR6s := Lib.hid (HR6.out.alloc (.cells #[.int .i64 x2, .int .i64 kind, .string text, .int .i64 line, .int .u32 num, .pointer none, .pointer none, .pointer none, .pointer none, .bool false] 150))
                cases hc6 : isB (toks.getD (at_ + 1) default) ⟨#[59]⟩ with
                | false =>
                  replace HS := HS.out
                  rw [if_neg (by rw [hc6]; simp)] at HS
                  replace HS := Lib.hid HS
                  refine (want_bad _ _ HR6s.out hc6).mono ?_
                  rintro e wz ⟨rfl, hb⟩
                  refine ⟨rfl, ?_⟩
                  show PPost w rb lb cap toks R _ _
                  rw [HS.out]
                  exact ⟨rfl, HK6s.out.ext hb⟩
                | true =>
                  replace HS := HS.out
                  rw [if_pos hc6] at HS
                  replace HS := Lib.hid HS
                  refine (want_ok _ _ HR6s.out hc6).mono ?_
                  rintro e w7 ⟨rfl, hk, hr⟩
                  have x7 := hk.size
                  try simp only [szA] at x7
                  have HE7 : Hid (w7.heap[w6.heap.size]? = some (.cells #[.int .i64 x2, .int .i64 kind, .string text, .int .i64 line, .int .u32 num, .pointer none, .pointer none, .pointer none, .pointer none, .bool false] 150 (0, 0))) := by
                    show _ = _
                    rw [hk.heap _ (by first | omega | (simp only [szA]; omega)) (by omega), heapA, if_pos rfl] <;> rfl
                  have HK7 := Lib.hid (HK6s.out.trans hk)
                  have HR7 := Lib.hid hr
                  obtain ⟨q71, q72, q73⟩ := cells_of_heap HE7.out
                  clear hk hr
                  go_wp2_with fail
                  go_ret
                  rw [HS.out]
                  refine ⟨_, rfl, HK7.out, HR7.out, AstAt.stm1 (by first | omega | (simp only [szS, szA, szD]; omega)) (by first | omega | (simp only [szS, szA, szD]; omega)) HE7.out ?_ ?_ ?_ ?_⟩
                  · exact rfl
                  · exact rfl
                  · exact rfl
                  · exact rfl
          · have hk5 : k = 5 := by omega
            subst hk5
            have HSO : Hid (so = none) := hsk.symm
            clear hsk hix
            have hgv := HGV.out w5 HR5.out
            go_wp2_with fail
            refine hgv.mono ?_
            rintro e w6 ⟨rfl, hb6⟩
            refine ⟨rfl, ?_⟩
            rw [HS.out, HSO.out]
            exact ⟨rfl, HK5.out.ext hb6⟩
end Go.Proofs.YtgjgaeloehfhiaaGreatDoor
