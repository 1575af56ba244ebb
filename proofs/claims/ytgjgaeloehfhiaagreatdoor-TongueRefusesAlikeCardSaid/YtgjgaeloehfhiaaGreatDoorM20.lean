/- The reader's declarations. -/
import Derived.Test.YtgjgaeloehfhiaaGreatDoorM19
namespace Go.Proofs.YtgjgaeloehfhiaaGreatDoor
open Go.RowKit

/-- A declaration: its name, its size (0: no array), the place behind it; or the line of the fault. -/
def prDecl (toks : List Tok) (at_ : Nat) : Except Nat ((Tok × Nat) × Nat) :=
  if isB (toks.getD at_ default) ⟨#[118, 97, 114]⟩ then
    let n := toks.getD (at_ + 1) default
    if n.kind = 2 ∨ n.kind = 1 then
      if isB (toks.getD (at_ + 1 + 1) default) ⟨#[91]⟩ then
        let s := toks.getD (at_ + 1 + 1 + 1) default
        if s.kind = 3 ∧ s.num ≠ 0 then
          if isB (toks.getD (at_ + 1 + 1 + 1 + 1) default) ⟨#[93]⟩ then
            if isB (toks.getD (at_ + 1 + 1 + 1 + 1 + 1) default) ⟨#[59]⟩ then .ok ((n, s.num), at_ + 1 + 1 + 1 + 1 + 1 + 1)
            else .error (toks.getD (at_ + 1 + 1 + 1 + 1 + 1) default).line
          else .error (toks.getD (at_ + 1 + 1 + 1 + 1) default).line
        else .error s.line
      else if isB (toks.getD (at_ + 1 + 1) default) ⟨#[59]⟩ then .ok ((n, 0), at_ + 1 + 1 + 1)
      else .error (toks.getD (at_ + 1 + 1) default).line
    else .error n.line
  else .error (toks.getD at_ default).line

def declV (d : Tok × Nat) : Value := .agg #[.int .i64 d.1.kind, .string d.1.text, .int .i64 d.1.line, .int .u32 d.1.num, .int .u32 d.2]

def DPost (w : World) (rb lb cap : Nat) (toks : List Tok) : Except Nat ((Tok × Nat) × Nat) → Ending → World → Prop
  | .ok (d, at'), e, w' => e = .returned (declV d) ∧ Kp rb w w' ∧ RdAt w' rb lb cap toks at'
  | .error ln, e, w' => e = gaveUp ln ∧ Kp rb w w'

theorem run_field69_3 (a b c d : Value) (w : World) : (Instr.field 69 (.agg #[a, b, c, d]) 3).run Tryz.prog w = .ok d w := by kernel_rfl

set_option maxRecDepth 100000 in
set_option maxHeartbeats 2000000 in
theorem declaration_reads {toks : List Tok} (w : World) (rb lb cap at_ : Nat) (h : RdAt w rb lb cap toks at_) :
    Calls Tryz.prog 51 #[.pointer (some ⟨rb, 0, none⟩)] w (DPost w rb lb cap toks (prDecl toks at_)) := by
  have hal := h.at_lt
  have sr0 := h.sr
  have sl := h.sl
  have nrb : w.heap.size ≠ rb := by omega
  have nlb : w.heap.size ≠ lb := by omega
  have hspec : prDecl toks at_ = prDecl toks at_ := rfl
  generalize hR : prDecl toks at_ = R at *
  have HS := Lib.hid hR.symm
  clear hR hspec
  have HK0 := Lib.hid (((Ext.refl w).alloc (.cells #[.int .i64 0, .string ⟨#[]⟩, .int .i64 0, .int .u32 0, .int .u32 0] 71)).kp rb)
  have HR0 := Lib.hid (h.alloc (.cells #[.int .i64 0, .string ⟨#[]⟩, .int .i64 0, .int .u32 0, .int .u32 0] 71))
  clear h
  have hf2 := run_field69_0
  have hf3 := run_field69_3
  replace HS := HS.out
  unfold prDecl at HS
  replace HS := Lib.hid HS
  cases hv : isB (toks.getD at_ default) ⟨#[118, 97, 114]⟩ with
  | false =>
    replace HS := HS.out
    rw [if_neg (by rw [hv]; simp)] at HS
    replace HS := Lib.hid HS
    have hw := want_bad _ _ HR0.out hv
    clear hv
    go_enter Tryz.func51, Tryz.ntmps51
    go_wp2_with fail
    refine (hw).mono ?_
    rintro e wz ⟨rfl, hb⟩
    refine ⟨rfl, ?_⟩
    rw [HS.out]
    exact ⟨rfl, HK0.out.ext hb⟩
  | true =>
    replace HS := HS.out
    rw [if_pos hv] at HS
    dsimp only at HS
    replace HS := Lib.hid HS
    have hw := want_ok _ _ HR0.out hv
    clear hv
    have hpk := fun w' (hR : RdAt w' rb lb cap toks (at_ + 1)) => peek_any w' hR
    have hgv := fun w' (hR : RdAt w' rb lb cap toks (at_ + 1)) => give_any w' hR
    have htk := fun w' (hR : RdAt w' rb lb cap toks (at_ + 1)) => take_ok w' hR
    generalize toks.getD (at_ + 1) default = t at *
    obtain ⟨kind, text, line, num⟩ := t
    simp only at htk HS
    go_enter Tryz.func51, Tryz.ntmps51
    go_wp2_with fail
    refine (hw).mono ?_
    rintro e w1 ⟨rfl, hk, hr⟩
    have x1 := hk.size
    try simp only [szA] at x1
    have HK1 := Lib.hid (HK0.out.trans hk)
    have HR1 := Lib.hid hr
    have HZ1 : Hid (w1.heap[w.heap.size]? = some (.cells #[.int .i64 0, .string ⟨#[]⟩, .int .i64 0, .int .u32 0, .int .u32 0] 71 (0, 0))) := by
      show _ = _
      rw [hk.heap _ (by first | omega | (simp only [szA]; omega)) (by omega), heapA, if_pos rfl]
    clear hk hr
    go_wp2_with fail
    refine (hpk _ HR1.out).mono ?_
    rintro e w2 ⟨rfl, hb⟩
    have x2 := hb.size
    try simp only [szS, szA, szD] at x2
    have HK2 := Lib.hid (HK1.out.ext hb)
    have HR2 := Lib.hid (HR1.out.keep hb)
    have HZ2 : Hid (w2.heap[w.heap.size]? = some (.cells #[.int .i64 0, .string ⟨#[]⟩, .int .i64 0, .int .u32 0, .int .u32 0] 71 (0, 0))) := by
      show _ = _
      rw [hb.block _ (by first | omega | (simp only [szS, szA, szD]; omega)), HZ1.out]
    clear hb
    by_cases hkd : kind = 2 ∨ kind = 1
    · skip
      replace HS := HS.out
      rw [if_pos hkd] at HS
      replace HS := Lib.hid HS
      rcases hkd with rfl | rfl
      · skip
        go_wp2_with fail
        refine (htk _ HR2.out (by omega) (by omega)).mono ?_
        rintro e w3 ⟨rfl, hk, hr⟩
        have x3 := hk.size
        try simp only [szS, szA, szD] at x3
        have HK3 := Lib.hid (HK2.out.trans hk)
        have HR3 := Lib.hid hr
        have HZ3 : Hid (w3.heap[w.heap.size]? = some (.cells #[.int .i64 0, .string ⟨#[]⟩, .int .i64 0, .int .u32 0, .int .u32 0] 71 (0, 0))) := by
          show _ = _
          rw [hk.heap _ (by first | omega | (simp only [szS, szA, szD]; omega)) (by omega), HZ2.out]
        clear hk hr
        go_wp2_with fail
        have HK3s := Lib.hid (HK3.out.alloc (.cells #[.int .i64 2, .string text, .int .i64 line, .int .u32 num, .int .u32 0] 71))
        have HR3s := Lib.hid (HR3.out.alloc (.cells #[.int .i64 2, .string text, .int .i64 line, .int .u32 num, .int .u32 0] 71))
        cases hbr : isB (toks.getD (at_ + 1 + 1) default) ⟨#[91]⟩ with
        | false =>
          replace HS := HS.out
          rw [if_neg (by rw [hbr]; simp)] at HS
          replace HS := Lib.hid HS
          refine (may_no _ _ HR3s.out hbr).mono ?_
          rintro e w4 ⟨rfl, hb⟩
          have x4 := hb.size
          try simp only [szA] at x4
          have HE4 : Hid (w4.heap[w3.heap.size]? = some (.cells #[.int .i64 2, .string text, .int .i64 line, .int .u32 num, .int .u32 0] 71 (0, 0))) := by
            show _ = _
            rw [hb.block _ (by first | omega | (simp only [szA]; omega)), heapA, if_pos rfl] <;> rfl
          have HK4 := Lib.hid (HK3s.out.ext hb)
          have HR4 := Lib.hid (HR3s.out.keep hb)
          obtain ⟨q41, q42, q43⟩ := cells_of_heap HE4.out
          have HZ4 : Hid (w4.heap[w.heap.size]? = some (.cells #[.int .i64 0, .string ⟨#[]⟩, .int .i64 0, .int .u32 0, .int .u32 0] 71 (0, 0))) := by
            show _ = _
            rw [hb.block _ (by first | omega | (simp only [szA]; omega)), heapA, if_neg (by omega), HZ3.out]
          clear hb
          go_wp2_with fail
          cases hc4 : isB (toks.getD (at_ + 1 + 1) default) ⟨#[59]⟩ with
          | false =>
            replace HS := HS.out
            rw [if_neg (by rw [hc4]; simp)] at HS
            replace HS := Lib.hid HS
            refine (want_bad _ _ HR4.out hc4).mono ?_
            rintro e wz ⟨rfl, hb⟩
            refine ⟨rfl, ?_⟩
            rw [HS.out]
            exact ⟨rfl, HK4.out.ext hb⟩
          | true =>
            replace HS := HS.out
            rw [if_pos hc4] at HS
            replace HS := Lib.hid HS
            refine (want_ok _ _ HR4.out hc4).mono ?_
            rintro e w5 ⟨rfl, hk, hr⟩
            have x5 := hk.size
            try simp only [szS, szA, szD] at x5
            have HE5 : Hid (w5.heap[w3.heap.size]? = some (.cells #[.int .i64 2, .string text, .int .i64 line, .int .u32 num, .int .u32 0] 71 (0, 0))) := by
              show _ = _
              rw [hk.heap _ (by first | omega | (simp only [szS, szA, szD]; omega)) (by omega), HE4.out]
            have HK5 := Lib.hid (HK4.out.trans hk)
            have HR5 := Lib.hid hr
            obtain ⟨q51, q52, q53⟩ := cells_of_heap HE5.out
            have HZ5 : Hid (w5.heap[w.heap.size]? = some (.cells #[.int .i64 0, .string ⟨#[]⟩, .int .i64 0, .int .u32 0, .int .u32 0] 71 (0, 0))) := by
              show _ = _
              rw [hk.heap _ (by first | omega | (simp only [szS, szA, szD]; omega)) (by omega), HZ4.out]
            clear hk hr q41 q42
            obtain ⟨z1, z2, z3⟩ := cells_of_heap HZ5.out
            go_wp2_with fail
            refine bodyPost_ret (v := .agg #[.int .i64 2, .string text, .int .i64 line, .int .u32 num, .int .u32 0]) ?_ rfl ?_
            · simp [results, Tryz.results51, go_sem, *]
            · rw [HS.out]
              refine ⟨rfl, ?_, ?_⟩
              · repeat' (with_reducible first | exact HK5.out | exact .inr (Nat.le_refl _) | apply Kp.drew | apply Kp.alloc | apply Kp.setCell)
              · repeat' (with_reducible first | exact HR5.out | exact nrb | exact nlb | apply RdAt.alloc | apply RdAt.setCell)
        | true =>
          replace HS := HS.out
          rw [if_pos hbr] at HS
          replace HS := Lib.hid HS
          refine (may_yes _ _ HR3s.out hbr).mono ?_
          rintro e w4 ⟨rfl, hk, hr⟩
          have x4 := hk.size
          try simp only [szA] at x4
          have HE4 : Hid (w4.heap[w3.heap.size]? = some (.cells #[.int .i64 2, .string text, .int .i64 line, .int .u32 num, .int .u32 0] 71 (0, 0))) := by
            show _ = _
            rw [hk.heap _ (by first | omega | (simp only [szA]; omega)) (by omega), heapA, if_pos rfl] <;> rfl
          have HK4 := Lib.hid (HK3s.out.trans hk)
          have HR4 := Lib.hid hr
          obtain ⟨q41, q42, q43⟩ := cells_of_heap HE4.out
          have HZ4 : Hid (w4.heap[w.heap.size]? = some (.cells #[.int .i64 0, .string ⟨#[]⟩, .int .i64 0, .int .u32 0, .int .u32 0] 71 (0, 0))) := by
            show _ = _
            rw [hk.heap _ (by first | omega | (simp only [szA]; omega)) (by omega), heapA, if_neg (by omega), HZ3.out]
          clear hk hr
          have hpk2 := fun w' (hR : RdAt w' rb lb cap toks (at_ + 1 + 1 + 1)) => peek_any w' hR
          have hgv2 := fun w' (hR : RdAt w' rb lb cap toks (at_ + 1 + 1 + 1)) => give_any w' hR
          have htk2 := fun w' (hR : RdAt w' rb lb cap toks (at_ + 1 + 1 + 1)) => take_ok w' hR
          generalize toks.getD (at_ + 1 + 1 + 1) default = t2 at *
          obtain ⟨kind2, text2, line2, num2⟩ := t2
          simp only at htk2 HS
          go_wp2_with fail
          refine (hpk2 _ HR4.out).mono ?_
          rintro e w5 ⟨rfl, hb⟩
          have x5 := hb.size
          try simp only [szS, szA, szD] at x5
          have HE5 : Hid (w5.heap[w3.heap.size]? = some (.cells #[.int .i64 2, .string text, .int .i64 line, .int .u32 num, .int .u32 0] 71 (0, 0))) := by
            show _ = _
            rw [hb.block _ (by first | omega | (simp only [szS, szA, szD]; omega)), HE4.out]
          have HK5 := Lib.hid (HK4.out.ext hb)
          have HR5 := Lib.hid (HR4.out.keep hb)
          obtain ⟨q51, q52, q53⟩ := cells_of_heap HE5.out
          have HZ5 : Hid (w5.heap[w.heap.size]? = some (.cells #[.int .i64 0, .string ⟨#[]⟩, .int .i64 0, .int .u32 0, .int .u32 0] 71 (0, 0))) := by
            show _ = _
            rw [hb.block _ (by first | omega | (simp only [szS, szA, szD]; omega)), HZ4.out]
          clear hb q41 q42
          by_cases hn2 : kind2 = 3 ∧ num2 ≠ 0
          · obtain ⟨rfl, hn0⟩ := hn2
            replace HS := HS.out
            rw [if_pos ⟨rfl, hn0⟩] at HS
            replace HS := Lib.hid HS
            have z0 : ((num2 : Int) == 0) = false := by rw [beq_eq_false_iff_ne]; omega
            go_wp2_with fail
            have HK5s := Lib.hid (HK5.out.alloc (.cells #[.int .i64 3, .string text2, .int .i64 line2, .int .u32 num2] 69))
            have HR5s := Lib.hid (HR5.out.alloc (.cells #[.int .i64 3, .string text2, .int .i64 line2, .int .u32 num2] 69))
            refine (htk2 _ HR5s.out (by omega) (by omega)).mono ?_
            rintro e w6 ⟨rfl, hk, hr⟩
            have x6 := hk.size
            try simp only [szA] at x6
            have HE6 : Hid (w6.heap[w3.heap.size]? = some (.cells #[.int .i64 2, .string text, .int .i64 line, .int .u32 num, .int .u32 0] 71 (0, 0))) := by
              show _ = _
              rw [hk.heap _ (by first | omega | (simp only [szA]; omega)) (by omega), heapA, if_neg (by omega), HE5.out] <;> rfl
            have HK6 := Lib.hid (HK5s.out.trans hk)
            have HR6 := Lib.hid hr
            obtain ⟨q61, q62, q63⟩ := cells_of_heap HE6.out
            have HZ6 : Hid (w6.heap[w.heap.size]? = some (.cells #[.int .i64 0, .string ⟨#[]⟩, .int .i64 0, .int .u32 0, .int .u32 0] 71 (0, 0))) := by
              show _ = _
              rw [hk.heap _ (by first | omega | (simp only [szA]; omega)) (by omega), heapA, if_neg (by omega), HZ5.out]
            clear hk hr q51 q52
            go_wp2_with fail
            have HR6s := Lib.hid (HR6.out.setCell (p := ⟨w3.heap.size, 4, none⟩) (by simp only []; omega) (by simp only []; omega) (.int .u32 num2))
            have HK6s := Lib.hid (HK6.out.setCell (p := ⟨w3.heap.size, 4, none⟩) (.inr (by simp only []; omega)) (.int .u32 num2))
            cases hc6 : isB (toks.getD (at_ + 1 + 1 + 1 + 1) default) ⟨#[93]⟩ with
            | false =>
              replace HS := HS.out
              rw [if_neg (by rw [hc6]; simp)] at HS
              replace HS := Lib.hid HS
              refine (want_bad _ _ HR6s.out hc6).mono ?_
              rintro e wz ⟨rfl, hb⟩
              refine ⟨rfl, ?_⟩
              rw [HS.out]
              exact ⟨rfl, HK6s.out.ext hb⟩
            | true =>
              replace HS := HS.out
              rw [if_pos hc6] at HS
              replace HS := Lib.hid HS
              refine (want_ok _ _ HR6s.out hc6).mono ?_
              rintro e w7 ⟨rfl, hk, hr⟩
              have x7 := hk.size
              try simp only [szS] at x7
              have HE7 : Hid (w7.heap[w3.heap.size]? = some (.cells #[.int .i64 2, .string text, .int .i64 line, .int .u32 num, .int .u32 num2] 71 (0, 0))) := by
                show _ = _
                rw [hk.heap _ (by first | omega | (simp only [szS]; omega)) (by omega), heapS, if_pos rfl, HE6.out] <;> rfl
              have HK7 := Lib.hid (HK6s.out.trans hk)
              have HR7 := Lib.hid hr
              obtain ⟨q71, q72, q73⟩ := cells_of_heap HE7.out
              have HZ7 : Hid (w7.heap[w.heap.size]? = some (.cells #[.int .i64 0, .string ⟨#[]⟩, .int .i64 0, .int .u32 0, .int .u32 0] 71 (0, 0))) := by
                show _ = _
                rw [hk.heap _ (by first | omega | (simp only [szS]; omega)) (by omega), heapS, if_neg (by omega), HZ6.out]
              clear hk hr q61 q62
              go_wp2_with fail
              cases hc7 : isB (toks.getD (at_ + 1 + 1 + 1 + 1 + 1) default) ⟨#[59]⟩ with
              | false =>
                replace HS := HS.out
                rw [if_neg (by rw [hc7]; simp)] at HS
                replace HS := Lib.hid HS
                refine (want_bad _ _ HR7.out hc7).mono ?_
                rintro e wz ⟨rfl, hb⟩
                refine ⟨rfl, ?_⟩
                rw [HS.out]
                exact ⟨rfl, HK7.out.ext hb⟩
              | true =>
                replace HS := HS.out
                rw [if_pos hc7] at HS
                replace HS := Lib.hid HS
                refine (want_ok _ _ HR7.out hc7).mono ?_
                rintro e w8 ⟨rfl, hk, hr⟩
                have x8 := hk.size
                try simp only [szS, szA, szD] at x8
                have HE8 : Hid (w8.heap[w3.heap.size]? = some (.cells #[.int .i64 2, .string text, .int .i64 line, .int .u32 num, .int .u32 num2] 71 (0, 0))) := by
                  show _ = _
                  rw [hk.heap _ (by first | omega | (simp only [szS, szA, szD]; omega)) (by omega), HE7.out]
                have HK8 := Lib.hid (HK7.out.trans hk)
                have HR8 := Lib.hid hr
                obtain ⟨q81, q82, q83⟩ := cells_of_heap HE8.out
                have HZ8 : Hid (w8.heap[w.heap.size]? = some (.cells #[.int .i64 0, .string ⟨#[]⟩, .int .i64 0, .int .u32 0, .int .u32 0] 71 (0, 0))) := by
                  show _ = _
                  rw [hk.heap _ (by first | omega | (simp only [szS, szA, szD]; omega)) (by omega), HZ7.out]
                clear hk hr q71 q72
                obtain ⟨z1, z2, z3⟩ := cells_of_heap HZ8.out
                go_wp2_with fail
                refine bodyPost_ret (v := .agg #[.int .i64 2, .string text, .int .i64 line, .int .u32 num, .int .u32 num2]) ?_ rfl ?_
                · simp [results, Tryz.results51, go_sem, *]
                · rw [HS.out]
                  refine ⟨rfl, ?_, ?_⟩
                  · repeat' (with_reducible first | exact HK8.out | exact .inr (Nat.le_refl _) | apply Kp.drew | apply Kp.alloc | apply Kp.setCell)
                  · repeat' (with_reducible first | exact HR8.out | exact nrb | exact nlb | apply RdAt.alloc | apply RdAt.setCell)
          · skip
            replace HS := HS.out
            rw [if_neg hn2] at HS
            replace HS := Lib.hid HS
            by_cases hk3 : kind2 = 3
            · subst hk3
              have hn0 : num2 = 0 := by omega
              subst hn0
              go_wp2_with fail
              refine (hgv2 _ (HR5.out.alloc (.cells #[.int .i64 3, .string text2, .int .i64 line2, .int .u32 0] 69))).mono ?_
              rintro e wz ⟨rfl, hb⟩
              refine ⟨rfl, ?_⟩
              rw [HS.out]
              exact ⟨rfl, (HK5.out.alloc _).ext hb⟩
            · have e3 : ((kind2 : Int) == 3) = false := by rw [beq_eq_false_iff_ne]; omega
              have n3 : ((kind2 : Int) != 3) = true := by rw [bne_iff_ne]; omega
              go_wp2_with fail
              refine (hgv2 _ (HR5.out.alloc (.cells #[.int .i64 kind2, .string text2, .int .i64 line2, .int .u32 num2] 69))).mono ?_
              rintro e wz ⟨rfl, hb⟩
              refine ⟨rfl, ?_⟩
              rw [HS.out]
              exact ⟨rfl, (HK5.out.alloc _).ext hb⟩
      · skip
        go_wp2_with fail
        refine (htk _ HR2.out (by omega) (by omega)).mono ?_
        rintro e w3 ⟨rfl, hk, hr⟩
        have x3 := hk.size
        try simp only [szS, szA, szD] at x3
        have HK3 := Lib.hid (HK2.out.trans hk)
        have HR3 := Lib.hid hr
        have HZ3 : Hid (w3.heap[w.heap.size]? = some (.cells #[.int .i64 0, .string ⟨#[]⟩, .int .i64 0, .int .u32 0, .int .u32 0] 71 (0, 0))) := by
          show _ = _
          rw [hk.heap _ (by first | omega | (simp only [szS, szA, szD]; omega)) (by omega), HZ2.out]
        clear hk hr
        go_wp2_with fail
        have HK3s := Lib.hid (HK3.out.alloc (.cells #[.int .i64 1, .string text, .int .i64 line, .int .u32 num, .int .u32 0] 71))
        have HR3s := Lib.hid (HR3.out.alloc (.cells #[.int .i64 1, .string text, .int .i64 line, .int .u32 num, .int .u32 0] 71))
        cases hbr : isB (toks.getD (at_ + 1 + 1) default) ⟨#[91]⟩ with
        | false =>
          replace HS := HS.out
          rw [if_neg (by rw [hbr]; simp)] at HS
          replace HS := Lib.hid HS
          refine (may_no _ _ HR3s.out hbr).mono ?_
          rintro e w4 ⟨rfl, hb⟩
          have x4 := hb.size
          try simp only [szA] at x4
          have HE4 : Hid (w4.heap[w3.heap.size]? = some (.cells #[.int .i64 1, .string text, .int .i64 line, .int .u32 num, .int .u32 0] 71 (0, 0))) := by
            show _ = _
            rw [hb.block _ (by first | omega | (simp only [szA]; omega)), heapA, if_pos rfl] <;> rfl
          have HK4 := Lib.hid (HK3s.out.ext hb)
          have HR4 := Lib.hid (HR3s.out.keep hb)
          obtain ⟨q41, q42, q43⟩ := cells_of_heap HE4.out
          have HZ4 : Hid (w4.heap[w.heap.size]? = some (.cells #[.int .i64 0, .string ⟨#[]⟩, .int .i64 0, .int .u32 0, .int .u32 0] 71 (0, 0))) := by
            show _ = _
            rw [hb.block _ (by first | omega | (simp only [szA]; omega)), heapA, if_neg (by omega), HZ3.out]
          clear hb
          go_wp2_with fail
          cases hc4 : isB (toks.getD (at_ + 1 + 1) default) ⟨#[59]⟩ with
          | false =>
            replace HS := HS.out
            rw [if_neg (by rw [hc4]; simp)] at HS
            replace HS := Lib.hid HS
            refine (want_bad _ _ HR4.out hc4).mono ?_
            rintro e wz ⟨rfl, hb⟩
            refine ⟨rfl, ?_⟩
            rw [HS.out]
            exact ⟨rfl, HK4.out.ext hb⟩
          | true =>
            replace HS := HS.out
            rw [if_pos hc4] at HS
            replace HS := Lib.hid HS
            refine (want_ok _ _ HR4.out hc4).mono ?_
            rintro e w5 ⟨rfl, hk, hr⟩
            have x5 := hk.size
            try simp only [szS, szA, szD] at x5
            have HE5 : Hid (w5.heap[w3.heap.size]? = some (.cells #[.int .i64 1, .string text, .int .i64 line, .int .u32 num, .int .u32 0] 71 (0, 0))) := by
              show _ = _
              rw [hk.heap _ (by first | omega | (simp only [szS, szA, szD]; omega)) (by omega), HE4.out]
            have HK5 := Lib.hid (HK4.out.trans hk)
            have HR5 := Lib.hid hr
            obtain ⟨q51, q52, q53⟩ := cells_of_heap HE5.out
            have HZ5 : Hid (w5.heap[w.heap.size]? = some (.cells #[.int .i64 0, .string ⟨#[]⟩, .int .i64 0, .int .u32 0, .int .u32 0] 71 (0, 0))) := by
              show _ = _
              rw [hk.heap _ (by first | omega | (simp only [szS, szA, szD]; omega)) (by omega), HZ4.out]
            clear hk hr q41 q42
            obtain ⟨z1, z2, z3⟩ := cells_of_heap HZ5.out
            go_wp2_with fail
            refine bodyPost_ret (v := .agg #[.int .i64 1, .string text, .int .i64 line, .int .u32 num, .int .u32 0]) ?_ rfl ?_
            · simp [results, Tryz.results51, go_sem, *]
            · rw [HS.out]
              refine ⟨rfl, ?_, ?_⟩
              · repeat' (with_reducible first | exact HK5.out | exact .inr (Nat.le_refl _) | apply Kp.drew | apply Kp.alloc | apply Kp.setCell)
              · repeat' (with_reducible first | exact HR5.out | exact nrb | exact nlb | apply RdAt.alloc | apply RdAt.setCell)
        | true =>
          replace HS := HS.out
          rw [if_pos hbr] at HS
          replace HS := Lib.hid HS
          refine (may_yes _ _ HR3s.out hbr).mono ?_
          rintro e w4 ⟨rfl, hk, hr⟩
          have x4 := hk.size
          try simp only [szA] at x4
          have HE4 : Hid (w4.heap[w3.heap.size]? = some (.cells #[.int .i64 1, .string text, .int .i64 line, .int .u32 num, .int .u32 0] 71 (0, 0))) := by
            show _ = _
            rw [hk.heap _ (by first | omega | (simp only [szA]; omega)) (by omega), heapA, if_pos rfl] <;> rfl
          have HK4 := Lib.hid (HK3s.out.trans hk)
          have HR4 := Lib.hid hr
          obtain ⟨q41, q42, q43⟩ := cells_of_heap HE4.out
          have HZ4 : Hid (w4.heap[w.heap.size]? = some (.cells #[.int .i64 0, .string ⟨#[]⟩, .int .i64 0, .int .u32 0, .int .u32 0] 71 (0, 0))) := by
            show _ = _
            rw [hk.heap _ (by first | omega | (simp only [szA]; omega)) (by omega), heapA, if_neg (by omega), HZ3.out]
          clear hk hr
          have hpk2 := fun w' (hR : RdAt w' rb lb cap toks (at_ + 1 + 1 + 1)) => peek_any w' hR
          have hgv2 := fun w' (hR : RdAt w' rb lb cap toks (at_ + 1 + 1 + 1)) => give_any w' hR
          have htk2 := fun w' (hR : RdAt w' rb lb cap toks (at_ + 1 + 1 + 1)) => take_ok w' hR
          generalize toks.getD (at_ + 1 + 1 + 1) default = t2 at *
          obtain ⟨kind2, text2, line2, num2⟩ := t2
          simp only at htk2 HS
          go_wp2_with fail
          refine (hpk2 _ HR4.out).mono ?_
          rintro e w5 ⟨rfl, hb⟩
          have x5 := hb.size
          try simp only [szS, szA, szD] at x5
          have HE5 : Hid (w5.heap[w3.heap.size]? = some (.cells #[.int .i64 1, .string text, .int .i64 line, .int .u32 num, .int .u32 0] 71 (0, 0))) := by
            show _ = _
            rw [hb.block _ (by first | omega | (simp only [szS, szA, szD]; omega)), HE4.out]
          have HK5 := Lib.hid (HK4.out.ext hb)
          have HR5 := Lib.hid (HR4.out.keep hb)
          obtain ⟨q51, q52, q53⟩ := cells_of_heap HE5.out
          have HZ5 : Hid (w5.heap[w.heap.size]? = some (.cells #[.int .i64 0, .string ⟨#[]⟩, .int .i64 0, .int .u32 0, .int .u32 0] 71 (0, 0))) := by
            show _ = _
            rw [hb.block _ (by first | omega | (simp only [szS, szA, szD]; omega)), HZ4.out]
          clear hb q41 q42
          by_cases hn2 : kind2 = 3 ∧ num2 ≠ 0
          · obtain ⟨rfl, hn0⟩ := hn2
            replace HS := HS.out
            rw [if_pos ⟨rfl, hn0⟩] at HS
            replace HS := Lib.hid HS
            have z0 : ((num2 : Int) == 0) = false := by rw [beq_eq_false_iff_ne]; omega
            go_wp2_with fail
            have HK5s := Lib.hid (HK5.out.alloc (.cells #[.int .i64 3, .string text2, .int .i64 line2, .int .u32 num2] 69))
            have HR5s := Lib.hid (HR5.out.alloc (.cells #[.int .i64 3, .string text2, .int .i64 line2, .int .u32 num2] 69))
            refine (htk2 _ HR5s.out (by omega) (by omega)).mono ?_
            rintro e w6 ⟨rfl, hk, hr⟩
            have x6 := hk.size
            try simp only [szA] at x6
            have HE6 : Hid (w6.heap[w3.heap.size]? = some (.cells #[.int .i64 1, .string text, .int .i64 line, .int .u32 num, .int .u32 0] 71 (0, 0))) := by
              show _ = _
              rw [hk.heap _ (by first | omega | (simp only [szA]; omega)) (by omega), heapA, if_neg (by omega), HE5.out] <;> rfl
            have HK6 := Lib.hid (HK5s.out.trans hk)
            have HR6 := Lib.hid hr
            obtain ⟨q61, q62, q63⟩ := cells_of_heap HE6.out
            have HZ6 : Hid (w6.heap[w.heap.size]? = some (.cells #[.int .i64 0, .string ⟨#[]⟩, .int .i64 0, .int .u32 0, .int .u32 0] 71 (0, 0))) := by
              show _ = _
              rw [hk.heap _ (by first | omega | (simp only [szA]; omega)) (by omega), heapA, if_neg (by omega), HZ5.out]
            clear hk hr q51 q52
            go_wp2_with fail
            have HR6s := Lib.hid (HR6.out.setCell (p := ⟨w3.heap.size, 4, none⟩) (by simp only []; omega) (by simp only []; omega) (.int .u32 num2))
            have HK6s := Lib.hid (HK6.out.setCell (p := ⟨w3.heap.size, 4, none⟩) (.inr (by simp only []; omega)) (.int .u32 num2))
            cases hc6 : isB (toks.getD (at_ + 1 + 1 + 1 + 1) default) ⟨#[93]⟩ with
            | false =>
              replace HS := HS.out
              rw [if_neg (by rw [hc6]; simp)] at HS
              replace HS := Lib.hid HS
              refine (want_bad _ _ HR6s.out hc6).mono ?_
              rintro e wz ⟨rfl, hb⟩
              refine ⟨rfl, ?_⟩
              rw [HS.out]
              exact ⟨rfl, HK6s.out.ext hb⟩
            | true =>
              replace HS := HS.out
              rw [if_pos hc6] at HS
              replace HS := Lib.hid HS
              refine (want_ok _ _ HR6s.out hc6).mono ?_
              rintro e w7 ⟨rfl, hk, hr⟩
              have x7 := hk.size
              try simp only [szS] at x7
              have HE7 : Hid (w7.heap[w3.heap.size]? = some (.cells #[.int .i64 1, .string text, .int .i64 line, .int .u32 num, .int .u32 num2] 71 (0, 0))) := by
                show _ = _
                rw [hk.heap _ (by first | omega | (simp only [szS]; omega)) (by omega), heapS, if_pos rfl, HE6.out] <;> rfl
              have HK7 := Lib.hid (HK6s.out.trans hk)
              have HR7 := Lib.hid hr
              obtain ⟨q71, q72, q73⟩ := cells_of_heap HE7.out
              have HZ7 : Hid (w7.heap[w.heap.size]? = some (.cells #[.int .i64 0, .string ⟨#[]⟩, .int .i64 0, .int .u32 0, .int .u32 0] 71 (0, 0))) := by
                show _ = _
                rw [hk.heap _ (by first | omega | (simp only [szS]; omega)) (by omega), heapS, if_neg (by omega), HZ6.out]
              clear hk hr q61 q62
              go_wp2_with fail
              cases hc7 : isB (toks.getD (at_ + 1 + 1 + 1 + 1 + 1) default) ⟨#[59]⟩ with
              | false =>
                replace HS := HS.out
                rw [if_neg (by rw [hc7]; simp)] at HS
                replace HS := Lib.hid HS
                refine (want_bad _ _ HR7.out hc7).mono ?_
                rintro e wz ⟨rfl, hb⟩
                refine ⟨rfl, ?_⟩
                rw [HS.out]
                exact ⟨rfl, HK7.out.ext hb⟩
              | true =>
                replace HS := HS.out
                rw [if_pos hc7] at HS
                replace HS := Lib.hid HS
                refine (want_ok _ _ HR7.out hc7).mono ?_
                rintro e w8 ⟨rfl, hk, hr⟩
                have x8 := hk.size
                try simp only [szS, szA, szD] at x8
                have HE8 : Hid (w8.heap[w3.heap.size]? = some (.cells #[.int .i64 1, .string text, .int .i64 line, .int .u32 num, .int .u32 num2] 71 (0, 0))) := by
                  show _ = _
                  rw [hk.heap _ (by first | omega | (simp only [szS, szA, szD]; omega)) (by omega), HE7.out]
                have HK8 := Lib.hid (HK7.out.trans hk)
                have HR8 := Lib.hid hr
                obtain ⟨q81, q82, q83⟩ := cells_of_heap HE8.out
                have HZ8 : Hid (w8.heap[w.heap.size]? = some (.cells #[.int .i64 0, .string ⟨#[]⟩, .int .i64 0, .int .u32 0, .int .u32 0] 71 (0, 0))) := by
                  show _ = _
                  rw [hk.heap _ (by first | omega | (simp only [szS, szA, szD]; omega)) (by omega), HZ7.out]
                clear hk hr q71 q72
                obtain ⟨z1, z2, z3⟩ := cells_of_heap HZ8.out
                go_wp2_with fail
                refine bodyPost_ret (v := .agg #[.int .i64 1, .string text, .int .i64 line, .int .u32 num, .int .u32 num2]) ?_ rfl ?_
                · simp [results, Tryz.results51, go_sem, *]
                · rw [HS.out]
                  refine ⟨rfl, ?_, ?_⟩
                  · repeat' (with_reducible first | exact HK8.out | exact .inr (Nat.le_refl _) | apply Kp.drew | apply Kp.alloc | apply Kp.setCell)
                  · repeat' (with_reducible first | exact HR8.out | exact nrb | exact nlb | apply RdAt.alloc | apply RdAt.setCell)
          · skip
            replace HS := HS.out
            rw [if_neg hn2] at HS
            replace HS := Lib.hid HS
            by_cases hk3 : kind2 = 3
            · subst hk3
              have hn0 : num2 = 0 := by omega
              subst hn0
              go_wp2_with fail
              refine (hgv2 _ (HR5.out.alloc (.cells #[.int .i64 3, .string text2, .int .i64 line2, .int .u32 0] 69))).mono ?_
              rintro e wz ⟨rfl, hb⟩
              refine ⟨rfl, ?_⟩
              rw [HS.out]
              exact ⟨rfl, (HK5.out.alloc _).ext hb⟩
            · have e3 : ((kind2 : Int) == 3) = false := by rw [beq_eq_false_iff_ne]; omega
              have n3 : ((kind2 : Int) != 3) = true := by rw [bne_iff_ne]; omega
              go_wp2_with fail
              refine (hgv2 _ (HR5.out.alloc (.cells #[.int .i64 kind2, .string text2, .int .i64 line2, .int .u32 num2] 69))).mono ?_
              rintro e wz ⟨rfl, hb⟩
              refine ⟨rfl, ?_⟩
              rw [HS.out]
              exact ⟨rfl, (HK5.out.alloc _).ext hb⟩
    · have e2 : ((kind : Int) == 2) = false := by rw [beq_eq_false_iff_ne]; omega
      have e1 : ((kind : Int) == 1) = false := by rw [beq_eq_false_iff_ne]; omega
      have n2 : ((kind : Int) != 2) = true := by rw [bne_iff_ne]; omega
      have n1 : ((kind : Int) != 1) = true := by rw [bne_iff_ne]; omega
      replace HS := HS.out
      rw [if_neg hkd] at HS
      replace HS := Lib.hid HS
      clear hkd
      go_wp2_with fail
      refine (hgv _ HR2.out).mono ?_
      rintro e wz ⟨rfl, hb⟩
      refine ⟨rfl, ?_⟩
      rw [HS.out]
      exact ⟨rfl, HK2.out.ext hb⟩
end Go.Proofs.YtgjgaeloehfhiaaGreatDoor
