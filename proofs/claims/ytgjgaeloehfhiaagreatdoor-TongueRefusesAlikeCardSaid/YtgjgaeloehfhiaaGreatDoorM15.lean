/- The reader's assignments. -/
import Derived.Test.YtgjgaeloehfhiaaGreatDoorM14
namespace Go.Proofs.YtgjgaeloehfhiaaGreatDoor
open Go.RowKit

set_option maxRecDepth 100000 in
set_option maxHeartbeats 2000000 in
theorem assign_reads {toks : List Tok} {f : Nat} (ih : Reads toks f (.expr 1)) (w : World) (rb lb cap at_ N : Nat) (h : RdAt w rb lb cap toks at_) (hG : Gl N w) (hN : N ≤ rb) (hf : need toks.length at_ .assign ≤ f + 1) (hk2 : (toks.getD at_ default).kind = 2) :
    Calls Tryz.prog 97 #[.pointer (some ⟨rb, 0, none⟩)] w (PPost w rb lb cap toks (pr toks (f + 1) .assign at_)) := by
  have ht := take_ok w h (by omega) (by omega)
  have hal := h.at_lt
  have sr0 := h.sr
  have sl := h.sl
  simp only [need] at hf
  have hspec : pr toks (f + 1) .assign at_ = (
    if isB (toks.getD (at_ + 1) default) ⟨#[91]⟩ then
      match pr toks f (.expr 1) (at_ + 1 + 1) with
      | .error n => .error n
      | .ok (i, a) =>
        if isB (toks.getD a default) ⟨#[93]⟩ then
          if isB (toks.getD (a + 1) default) ⟨#[61]⟩ then
            match pr toks f (.expr 1) (a + 1 + 1) with
            | .error n => .error n
            | .ok (v, b) => if isB (toks.getD b default) ⟨#[59]⟩ then .ok (.stm 1 (toks.getD at_ default) i v .nil .nil false, b + 1) else .error (toks.getD b default).line
          else .error (toks.getD (a + 1) default).line
        else .error (toks.getD a default).line
    else if isB (toks.getD (at_ + 1) default) ⟨#[61]⟩ then
      match pr toks f (.expr 1) (at_ + 1 + 1) with
      | .error n => .error n
      | .ok (v, b) => if isB (toks.getD b default) ⟨#[59]⟩ then .ok (.stm 0 (toks.getD at_ default) v .nil .nil .nil false, b + 1) else .error (toks.getD b default).line
    else .error (toks.getD (at_ + 1) default).line) := rfl
  generalize pr toks (f + 1) .assign at_ = R at *
  have HS := Lib.hid hspec
  have HG := Lib.hid hG
  have HI := Lib.hid ih
  clear hspec ih hG h
  generalize (toks.getD at_ default) = t at *
  obtain ⟨kind, text, line, num⟩ := t
  clear hk2
  go_enter Tryz.func97, Tryz.ntmps97
  go_wp2_with fail
  refine ht.mono ?_
  rintro e w1 ⟨rfl, hk, hr⟩
  have x1 := hk.size
  have HK0 := Lib.hid hk
  have HR0 := Lib.hid hr
  clear hk hr
  go_wp2_with fail
  have HE1 : Hid ((w1.alloc (.cells #[.int .i64 0, .int .i64 kind, .string text, .int .i64 line, .int .u32 num, .pointer none, .pointer none, .pointer none, .pointer none, .bool false] 150)).heap[w1.heap.size]? = some (.cells #[.int .i64 0, .int .i64 kind, .string text, .int .i64 line, .int .u32 num, .pointer none, .pointer none, .pointer none, .pointer none, .bool false] 150 (0, 0))) := by
    show _ = _
    rw [heapA, if_pos rfl]
  have HK1 := Lib.hid (HK0.out.alloc (.cells #[.int .i64 0, .int .i64 kind, .string text, .int .i64 line, .int .u32 num, .pointer none, .pointer none, .pointer none, .pointer none, .bool false] 150))
  have HR1 := Lib.hid (HR0.out.alloc (.cells #[.int .i64 0, .int .i64 kind, .string text, .int .i64 line, .int .u32 num, .pointer none, .pointer none, .pointer none, .pointer none, .bool false] 150))
  cases hb : isB (toks.getD (at_ + 1) default) ⟨#[91]⟩ with
  | false =>
    replace HS := HS.out
    rw [if_neg (by rw [hb]; simp)] at HS
    replace HS := Lib.hid HS
    refine (may_no _ _ HR1.out hb).mono ?_
    rintro e w2 ⟨rfl, hb⟩
    have x2 := hb.size
    try simp only [szA] at x2
    have HE2 : Hid (w2.heap[w1.heap.size]? = some (.cells #[.int .i64 0, .int .i64 kind, .string text, .int .i64 line, .int .u32 num, .pointer none, .pointer none, .pointer none, .pointer none, .bool false] 150 (0, 0))) := by
      show _ = _
      rw [hb.block _ (by first | omega | (simp only [szA]; omega)), HE1.out]
    have HK2 := Lib.hid (HK1.out.ext hb)
    have HR2 := Lib.hid (HR1.out.keep hb)
    obtain ⟨q21, q22, q23⟩ := cells_of_heap HE2.out
    clear hb
    go_wp2_with fail
    cases hc2 : isB (toks.getD (at_ + 1) default) ⟨#[61]⟩ with
    | false =>
      replace HS := HS.out
      rw [if_neg (by rw [hc2]; simp)] at HS
      replace HS := Lib.hid HS
      rw [HS.out]
      refine (want_bad _ _ HR2.out hc2).mono ?_
      rintro e wz ⟨rfl, hb⟩
      exact ⟨rfl, rfl, HK2.out.ext hb⟩
    | true =>
      replace HS := HS.out
      rw [if_pos hc2] at HS
      replace HS := Lib.hid HS
      refine (want_ok _ _ HR2.out hc2).mono ?_
      rintro e w3 ⟨rfl, hk, hr⟩
      have x3 := hk.size
      try simp only [szS, szA] at x3
      have HE3 : Hid (w3.heap[w1.heap.size]? = some (.cells #[.int .i64 0, .int .i64 kind, .string text, .int .i64 line, .int .u32 num, .pointer none, .pointer none, .pointer none, .pointer none, .bool false] 150 (0, 0))) := by
        show _ = _
        rw [hk.heap _ (by first | omega | (simp only [szS, szA]; omega)) (by omega), HE2.out]
      have HK3 := Lib.hid (HK2.out.trans hk)
      have HR3 := Lib.hid hr
      obtain ⟨q31, q32, q33⟩ := cells_of_heap HE3.out
      clear hk hr q21 q22
      go_wp2_with fail
      have hi3 := HI.out _ rb lb cap _ N HR3.out (HG.out.kp hN HK3.out) hN (by simp only [need]; omega)
      simp only [fnOf, argsOf] at hi3
      cases hx3 : pr toks f (.expr 1) (at_ + 1 + 1) with
      | error ln =>
        replace HS := HS.out
        rw [hx3] at HS
        dsimp only at HS
        replace HS := Lib.hid HS
        rw [hx3] at hi3
        rw [HS.out]
        refine (hi3).mono ?_
        rintro e wz ⟨rfl, hk⟩
        exact ⟨rfl, rfl, HK3.out.trans hk⟩
      | ok r3 =>
        obtain ⟨tv, av⟩ := r3
        have hXv := pr_isExp toks f _ _ _ _ hx3
        have hLv := pr_least toks f _ _ _ _ hx3
        simp only [What.least] at hLv
        rw [hx3] at hi3
        replace HS := HS.out
        rw [hx3] at HS
        dsimp only at HS
        replace HS := Lib.hid HS
        clear hx3
        refine (hi3).mono ?_
        rintro e w4 ⟨v4, rfl, hk, hr, ha⟩
        obtain ⟨b4, rfl, b41, b42⟩ := ha.ptr_exp hXv
        have x4 := hk.size
        try simp only [szS, szA] at x4 b41 ha
        have HE4 : Hid (w4.heap[w1.heap.size]? = some (.cells #[.int .i64 0, .int .i64 kind, .string text, .int .i64 line, .int .u32 num, .pointer none, .pointer none, .pointer none, .pointer none, .bool false] 150 (0, 0))) := by
          show _ = _
          rw [hk.heap _ (by first | omega | (simp only [szS, szA]; omega)) (by omega), HE3.out]
        have HK4 := Lib.hid (HK3.out.trans hk)
        have HR4 := Lib.hid hr
        have HAv_4 := Lib.hid ha
        obtain ⟨q41, q42, q43⟩ := cells_of_heap HE4.out
        clear hk hr ha q31 q32
        go_wp2_with fail
        have HR4s := Lib.hid (HR4.out.setCell (p := ⟨w1.heap.size, 5, none⟩) (by simp only []; omega) (by simp only []; omega) (.pointer (some ⟨b4, 0, none⟩)))
        have HK4s := Lib.hid (HK4.out.setCell (p := ⟨w1.heap.size, 5, none⟩) (.inr (by simp only []; omega)) (.pointer (some ⟨b4, 0, none⟩)))
        have HAv_4s := Lib.hid (HAv_4.out.set (p := ⟨w1.heap.size, 5, none⟩) (by simp only []; omega) (.pointer (some ⟨b4, 0, none⟩)))
        cases hc4 : isB (toks.getD (av) default) ⟨#[59]⟩ with
        | false =>
          replace HS := HS.out
          rw [if_neg (by rw [hc4]; simp)] at HS
          replace HS := Lib.hid HS
          rw [HS.out]
          refine (want_bad _ _ HR4s.out hc4).mono ?_
          rintro e wz ⟨rfl, hb⟩
          exact ⟨rfl, rfl, HK4s.out.ext hb⟩
        | true =>
          replace HS := HS.out
          rw [if_pos hc4] at HS
          replace HS := Lib.hid HS
          refine (want_ok _ _ HR4s.out hc4).mono ?_
          rintro e w5 ⟨rfl, hk, hr⟩
          have x5 := hk.size
          try simp only [szS] at x5
          have HE5 : Hid (w5.heap[w1.heap.size]? = some (.cells #[.int .i64 0, .int .i64 kind, .string text, .int .i64 line, .int .u32 num, .pointer (some ⟨b4, 0, none⟩), .pointer none, .pointer none, .pointer none, .bool false] 150 (0, 0))) := by
            show _ = _
            rw [hk.heap _ (by first | omega | (simp only [szS]; omega)) (by omega), heapS, if_pos rfl, HE4.out]; rfl
          have HK5 := Lib.hid (HK4s.out.trans hk)
          have HR5 := Lib.hid hr
          have HAv_5 := Lib.hid (HAv_4s.out.kp hk (by omega) (by first | omega | (simp only [szS]; omega)))
          obtain ⟨q51, q52, q53⟩ := cells_of_heap HE5.out
          clear hk hr q41 q42
          go_wp2_with fail
          go_ret
          rw [HS.out]
          refine ⟨_, rfl, HK5.out, HR5.out, AstAt.stm1 (by omega) (by omega) HE5.out ?_ ?_ ?_ ?_⟩
          · exact HAv_5.out.wide (by omega) (by omega)
          · exact rfl
          · exact rfl
          · exact rfl
  | true =>
    replace HS := HS.out
    rw [if_pos hb] at HS
    replace HS := Lib.hid HS
    refine (may_yes _ _ HR1.out hb).mono ?_
    rintro e w2 ⟨rfl, hk, hr⟩
    have x2 := hk.size
    try simp only [szA] at x2
    have HE2 : Hid (w2.heap[w1.heap.size]? = some (.cells #[.int .i64 0, .int .i64 kind, .string text, .int .i64 line, .int .u32 num, .pointer none, .pointer none, .pointer none, .pointer none, .bool false] 150 (0, 0))) := by
      show _ = _
      rw [hk.heap _ (by first | omega | (simp only [szA]; omega)) (by omega), HE1.out]
    have HK2 := Lib.hid (HK1.out.trans hk)
    have HR2 := Lib.hid hr
    obtain ⟨q21, q22, q23⟩ := cells_of_heap HE2.out
    clear hk hr
    go_wp2_with fail
    have HR2s := Lib.hid (HR2.out.setCell (p := ⟨w1.heap.size, 0, none⟩) (by simp only []; omega) (by simp only []; omega) (.int .i64 1))
    have HK2s := Lib.hid (HK2.out.setCell (p := ⟨w1.heap.size, 0, none⟩) (.inr (by simp only []; omega)) (.int .i64 1))
    have hi2 := HI.out _ rb lb cap _ N HR2s.out (HG.out.kp hN HK2s.out) hN (by simp only [need]; omega)
    simp only [fnOf, argsOf] at hi2
    cases hx2 : pr toks f (.expr 1) (at_ + 1 + 1) with
    | error ln =>
      replace HS := HS.out
      rw [hx2] at HS
      dsimp only at HS
      replace HS := Lib.hid HS
      rw [hx2] at hi2
      rw [HS.out]
      refine (hi2).mono ?_
      rintro e wz ⟨rfl, hk⟩
      exact ⟨rfl, rfl, HK2s.out.trans hk⟩
    | ok r2 =>
      obtain ⟨ti, ai⟩ := r2
      have hXi := pr_isExp toks f _ _ _ _ hx2
      have hLi := pr_least toks f _ _ _ _ hx2
      simp only [What.least] at hLi
      rw [hx2] at hi2
      replace HS := HS.out
      rw [hx2] at HS
      dsimp only at HS
      replace HS := Lib.hid HS
      clear hx2
      refine (hi2).mono ?_
      rintro e w3 ⟨v3, rfl, hk, hr, ha⟩
      obtain ⟨b3, rfl, b31, b32⟩ := ha.ptr_exp hXi
      have x3 := hk.size
      try simp only [szS] at x3 b31 ha
      have HE3 : Hid (w3.heap[w1.heap.size]? = some (.cells #[.int .i64 1, .int .i64 kind, .string text, .int .i64 line, .int .u32 num, .pointer none, .pointer none, .pointer none, .pointer none, .bool false] 150 (0, 0))) := by
        show _ = _
        rw [hk.heap _ (by first | omega | (simp only [szS]; omega)) (by omega), heapS, if_pos rfl, HE2.out]; rfl
      have HK3 := Lib.hid (HK2s.out.trans hk)
      have HR3 := Lib.hid hr
      have HAi_3 := Lib.hid ha
      obtain ⟨q31, q32, q33⟩ := cells_of_heap HE3.out
      clear hk hr ha q21 q22
      go_wp2_with fail
      have HR3s := Lib.hid (HR3.out.setCell (p := ⟨w1.heap.size, 5, none⟩) (by simp only []; omega) (by simp only []; omega) (.pointer (some ⟨b3, 0, none⟩)))
      have HK3s := Lib.hid (HK3.out.setCell (p := ⟨w1.heap.size, 5, none⟩) (.inr (by simp only []; omega)) (.pointer (some ⟨b3, 0, none⟩)))
      have HAi_3s := Lib.hid (HAi_3.out.set (p := ⟨w1.heap.size, 5, none⟩) (by simp only []; omega) (.pointer (some ⟨b3, 0, none⟩)))
      cases hc3 : isB (toks.getD (ai) default) ⟨#[93]⟩ with
      | false =>
        replace HS := HS.out
        rw [if_neg (by rw [hc3]; simp)] at HS
        replace HS := Lib.hid HS
        rw [HS.out]
        refine (want_bad _ _ HR3s.out hc3).mono ?_
        rintro e wz ⟨rfl, hb⟩
        exact ⟨rfl, rfl, HK3s.out.ext hb⟩
      | true =>
        replace HS := HS.out
        rw [if_pos hc3] at HS
        replace HS := Lib.hid HS
        refine (want_ok _ _ HR3s.out hc3).mono ?_
        rintro e w4 ⟨rfl, hk, hr⟩
        have x4 := hk.size
        try simp only [szS] at x4
        have HE4 : Hid (w4.heap[w1.heap.size]? = some (.cells #[.int .i64 1, .int .i64 kind, .string text, .int .i64 line, .int .u32 num, .pointer (some ⟨b3, 0, none⟩), .pointer none, .pointer none, .pointer none, .bool false] 150 (0, 0))) := by
          show _ = _
          rw [hk.heap _ (by first | omega | (simp only [szS]; omega)) (by omega), heapS, if_pos rfl, HE3.out]; rfl
        have HK4 := Lib.hid (HK3s.out.trans hk)
        have HR4 := Lib.hid hr
        have HAi_4 := Lib.hid (HAi_3s.out.kp hk (by omega) (by first | omega | (simp only [szS]; omega)))
        obtain ⟨q41, q42, q43⟩ := cells_of_heap HE4.out
        clear hk hr q31 q32
        go_wp2_with fail
        cases hc4 : isB (toks.getD (ai + 1) default) ⟨#[61]⟩ with
        | false =>
          replace HS := HS.out
          rw [if_neg (by rw [hc4]; simp)] at HS
          replace HS := Lib.hid HS
          rw [HS.out]
          refine (want_bad _ _ HR4.out hc4).mono ?_
          rintro e wz ⟨rfl, hb⟩
          exact ⟨rfl, rfl, HK4.out.ext hb⟩
        | true =>
          replace HS := HS.out
          rw [if_pos hc4] at HS
          replace HS := Lib.hid HS
          refine (want_ok _ _ HR4.out hc4).mono ?_
          rintro e w5 ⟨rfl, hk, hr⟩
          have x5 := hk.size
          try simp only [szS, szA] at x5
          have HE5 : Hid (w5.heap[w1.heap.size]? = some (.cells #[.int .i64 1, .int .i64 kind, .string text, .int .i64 line, .int .u32 num, .pointer (some ⟨b3, 0, none⟩), .pointer none, .pointer none, .pointer none, .bool false] 150 (0, 0))) := by
            show _ = _
            rw [hk.heap _ (by first | omega | (simp only [szS, szA]; omega)) (by omega), HE4.out]
          have HK5 := Lib.hid (HK4.out.trans hk)
          have HR5 := Lib.hid hr
          have HAi_5 := Lib.hid (HAi_4.out.kp hk (by omega) (by first | omega | (simp only [szS, szA]; omega)))
          obtain ⟨q51, q52, q53⟩ := cells_of_heap HE5.out
          clear hk hr q41 q42
          go_wp2_with fail
          have hi5 := HI.out _ rb lb cap _ N HR5.out (HG.out.kp hN HK5.out) hN (by simp only [need]; omega)
          simp only [fnOf, argsOf] at hi5
          cases hx5 : pr toks f (.expr 1) (ai + 1 + 1) with
          | error ln =>
            replace HS := HS.out
            rw [hx5] at HS
            dsimp only at HS
            replace HS := Lib.hid HS
            rw [hx5] at hi5
            rw [HS.out]
            refine (hi5).mono ?_
            rintro e wz ⟨rfl, hk⟩
            exact ⟨rfl, rfl, HK5.out.trans hk⟩
          | ok r5 =>
            obtain ⟨tv, av⟩ := r5
            have hXv := pr_isExp toks f _ _ _ _ hx5
            have hLv := pr_least toks f _ _ _ _ hx5
            simp only [What.least] at hLv
            rw [hx5] at hi5
            replace HS := HS.out
            rw [hx5] at HS
            dsimp only at HS
            replace HS := Lib.hid HS
            clear hx5
            refine (hi5).mono ?_
            rintro e w6 ⟨v6, rfl, hk, hr, ha⟩
            obtain ⟨b6, rfl, b61, b62⟩ := ha.ptr_exp hXv
            have x6 := hk.size
            try simp only [szS, szA] at x6 b61 ha
            have HE6 : Hid (w6.heap[w1.heap.size]? = some (.cells #[.int .i64 1, .int .i64 kind, .string text, .int .i64 line, .int .u32 num, .pointer (some ⟨b3, 0, none⟩), .pointer none, .pointer none, .pointer none, .bool false] 150 (0, 0))) := by
              show _ = _
              rw [hk.heap _ (by first | omega | (simp only [szS, szA]; omega)) (by omega), HE5.out]
            have HK6 := Lib.hid (HK5.out.trans hk)
            have HR6 := Lib.hid hr
            have HAi_6 := Lib.hid (HAi_5.out.kp hk (by omega) (by first | omega | (simp only [szS, szA]; omega)))
            have HAv_6 := Lib.hid ha
            obtain ⟨q61, q62, q63⟩ := cells_of_heap HE6.out
            clear hk hr ha q51 q52
            go_wp2_with fail
            have HR6s := Lib.hid (HR6.out.setCell (p := ⟨w1.heap.size, 6, none⟩) (by simp only []; omega) (by simp only []; omega) (.pointer (some ⟨b6, 0, none⟩)))
            have HK6s := Lib.hid (HK6.out.setCell (p := ⟨w1.heap.size, 6, none⟩) (.inr (by simp only []; omega)) (.pointer (some ⟨b6, 0, none⟩)))
            have HAi_6s := Lib.hid (HAi_6.out.set (p := ⟨w1.heap.size, 6, none⟩) (by simp only []; omega) (.pointer (some ⟨b6, 0, none⟩)))
            have HAv_6s := Lib.hid (HAv_6.out.set (p := ⟨w1.heap.size, 6, none⟩) (by simp only []; omega) (.pointer (some ⟨b6, 0, none⟩)))
            cases hc6 : isB (toks.getD (av) default) ⟨#[59]⟩ with
            | false =>
              replace HS := HS.out
              rw [if_neg (by rw [hc6]; simp)] at HS
              replace HS := Lib.hid HS
              rw [HS.out]
              refine (want_bad _ _ HR6s.out hc6).mono ?_
              rintro e wz ⟨rfl, hb⟩
              exact ⟨rfl, rfl, HK6s.out.ext hb⟩
            | true =>
              replace HS := HS.out
              rw [if_pos hc6] at HS
              replace HS := Lib.hid HS
              refine (want_ok _ _ HR6s.out hc6).mono ?_
              rintro e w7 ⟨rfl, hk, hr⟩
              have x7 := hk.size
              try simp only [szS] at x7
              have HE7 : Hid (w7.heap[w1.heap.size]? = some (.cells #[.int .i64 1, .int .i64 kind, .string text, .int .i64 line, .int .u32 num, .pointer (some ⟨b3, 0, none⟩), .pointer (some ⟨b6, 0, none⟩), .pointer none, .pointer none, .bool false] 150 (0, 0))) := by
                show _ = _
                rw [hk.heap _ (by first | omega | (simp only [szS]; omega)) (by omega), heapS, if_pos rfl, HE6.out]; rfl
              have HK7 := Lib.hid (HK6s.out.trans hk)
              have HR7 := Lib.hid hr
              have HAi_7 := Lib.hid (HAi_6s.out.kp hk (by omega) (by first | omega | (simp only [szS]; omega)))
              have HAv_7 := Lib.hid (HAv_6s.out.kp hk (by omega) (by first | omega | (simp only [szS]; omega)))
              obtain ⟨q71, q72, q73⟩ := cells_of_heap HE7.out
              clear hk hr q61 q62
              go_wp2_with fail
              go_ret
              rw [HS.out]
              refine ⟨_, rfl, HK7.out, HR7.out, AstAt.stm1 (by omega) (by omega) HE7.out ?_ ?_ ?_ ?_⟩
              · exact HAi_7.out.wide (by omega) (by omega)
              · exact HAv_7.out.wide (by omega) (by omega)
              · exact rfl
              · exact rfl
end Go.Proofs.YtgjgaeloehfhiaaGreatDoor
