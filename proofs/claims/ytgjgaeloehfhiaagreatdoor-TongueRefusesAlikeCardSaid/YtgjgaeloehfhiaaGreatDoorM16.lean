/- The reader's choices. -/
import Derived.Test.YtgjgaeloehfhiaaGreatDoorM15
namespace Go.Proofs.YtgjgaeloehfhiaaGreatDoor
open Go.RowKit

theorem AstAt.ptr_blk {w : World} {lo hi : Nat} {a : Ast} {v : Value} (h : AstAt w lo hi a v) (ha : a.isBlk) : ∃ b, v = .pointer (some ⟨b, 0, none⟩) ∧ lo ≤ b ∧ b < hi := by
  cases a <;> simp only [Ast.isBlk] at ha
  obtain ⟨b, vl, hv, h1, h2, _⟩ := h
  exact ⟨b, hv, h1, h2⟩
theorem AstAt.ptr_stm {w : World} {lo hi : Nat} {a : Ast} {v : Value} (h : AstAt w lo hi a v) (ha : a.isStm) : ∃ b, v = .pointer (some ⟨b, 0, none⟩) ∧ lo ≤ b ∧ b < hi := by
  cases a <;> simp only [Ast.isStm] at ha
  obtain ⟨b, ve, vf, vb, vr, hv, h1, h2, _⟩ := h
  exact ⟨b, hv, h1, h2⟩

set_option maxRecDepth 100000 in
set_option maxHeartbeats 2000000 in
theorem choice_reads {toks : List Tok} {f : Nat} (ihe : Reads toks f (.expr 1)) (ihb : Reads toks f .block) (ihc : Reads toks f .choice) (w : World) (rb lb cap at_ N : Nat) (h : RdAt w rb lb cap toks at_) (hG : Gl N w) (hN : N ≤ rb) (hf : need toks.length at_ .choice ≤ f + 1) :
    Calls Tryz.prog 98 #[.pointer (some ⟨rb, 0, none⟩)] w (PPost w rb lb cap toks (pr toks (f + 1) .choice at_)) := by
  have hal := h.at_lt
  have sr0 := h.sr
  have sl := h.sl
  simp only [need] at hf
  have hspec : pr toks (f + 1) .choice at_ = (
    if isB (toks.getD at_ default) ⟨#[105, 102]⟩ then
      match pr toks f (.expr 1) (at_ + 1) with
      | .error n => .error n
      | .ok (e, a) =>
        match pr toks f .block a with
        | .error n => .error n
        | .ok (b, c) =>
          if isB (toks.getD c default) ⟨#[101, 108, 115, 101]⟩ then
            if isB (toks.getD (c + 1) default) ⟨#[105, 102]⟩ then
              match pr toks f .choice (c + 1) with
              | .error n => .error n
              | .ok (s, d) => .ok (.stm 2 (toks.getD at_ default) e .nil b (.blk 0 (.cons s .lnil)) true, d)
            else
              match pr toks f .block (c + 1) with
              | .error n => .error n
              | .ok (s, d) => .ok (.stm 2 (toks.getD at_ default) e .nil b s false, d)
          else .ok (.stm 2 (toks.getD at_ default) e .nil b .nil false, c)
    else .error (toks.getD at_ default).line) := rfl
  generalize pr toks (f + 1) .choice at_ = R at *
  have HS := Lib.hid hspec
  have HG := Lib.hid hG
  have HIe := Lib.hid ihe
  have HIb := Lib.hid ihb
  have HIc := Lib.hid ihc
  have HK0 := Lib.hid (Kp.refl rb w)
  have HR0 := Lib.hid h
  clear hspec ihe ihb ihc hG h
  cases hif : isB (toks.getD at_ default) ⟨#[105, 102]⟩ with
  | false =>
    have hw := want_bad _ _ HR0.out hif
    replace HS := HS.out
    rw [if_neg (by rw [hif]; simp)] at HS
    replace HS := Lib.hid HS
    clear hif
    go_enter Tryz.func98, Tryz.ntmps98
    go_wp2_with fail
    rw [HS.out]
    refine (hw).mono ?_
    rintro e wz ⟨rfl, hb⟩
    exact ⟨rfl, rfl, HK0.out.ext hb⟩
  | true =>
    have hw := want_ok _ _ HR0.out hif
    replace HS := HS.out
    rw [if_pos hif] at HS
    replace HS := Lib.hid HS
    clear hif
    generalize (toks.getD at_ default) = t at *
    obtain ⟨kind, text, line, num⟩ := t
    go_enter Tryz.func98, Tryz.ntmps98
    go_wp2_with fail
    refine (hw).mono ?_
    rintro e w1 ⟨rfl, hk, hr⟩
    have x1 := hk.size
    try simp only [szS, szA, szD] at x1
    have HK1 := Lib.hid (HK0.out.trans hk)
    have HR1 := Lib.hid hr
    clear hk hr
    go_wp2_with fail
    have hi1 := HIe.out _ rb lb cap (at_ + 1) N HR1.out (HG.out.kp hN HK1.out) hN (by simp only [need]; omega)
    simp only [fnOf, argsOf] at hi1
    cases hx1 : pr toks f (.expr 1) (at_ + 1) with
    | error ln =>
      replace HS := HS.out
      rw [hx1] at HS
      dsimp only at HS
      replace HS := Lib.hid HS
      rw [hx1] at hi1
      rw [HS.out]
      refine (hi1).mono ?_
      rintro e wz ⟨rfl, hk⟩
      exact ⟨rfl, rfl, HK1.out.trans hk⟩
    | ok r1 =>
      obtain ⟨te, ae⟩ := r1
      have hXe := pr_isExp toks f _ _ _ _ hx1
      have hLe := pr_least toks f _ _ _ _ hx1
      simp only [What.least] at hLe
      rw [hx1] at hi1
      replace HS := HS.out
      rw [hx1] at HS
      dsimp only at HS
      replace HS := Lib.hid HS
      clear hx1
      refine (hi1).mono ?_
      rintro e w2 ⟨v2, rfl, hk, hr, ha⟩
      obtain ⟨b2, rfl, b21, b22⟩ := ha.ptr_exp hXe
      have x2 := hk.size
      try simp only [szS, szA, szD] at x2 b21 ha
      have HK2 := Lib.hid (HK1.out.trans hk)
      have HR2 := Lib.hid hr
      have HAe_2 := Lib.hid ha
      clear hk hr ha
      go_wp2_with fail
      have HK2s := Lib.hid (HK2.out.alloc (.cells #[.int .i64 2, .int .i64 kind, .string text, .int .i64 line, .int .u32 num, .pointer (some ⟨b2, 0, none⟩), .pointer none, .pointer none, .pointer none, .bool false] 150))
      have HR2s := Lib.hid (HR2.out.alloc (.cells #[.int .i64 2, .int .i64 kind, .string text, .int .i64 line, .int .u32 num, .pointer (some ⟨b2, 0, none⟩), .pointer none, .pointer none, .pointer none, .bool false] 150))
      have HAe_2s := Lib.hid (HAe_2.out.kp (((Ext.refl w2).alloc (.cells #[.int .i64 2, .int .i64 kind, .string text, .int .i64 line, .int .u32 num, .pointer (some ⟨b2, 0, none⟩), .pointer none, .pointer none, .pointer none, .bool false] 150)).kp rb) (by omega) (by omega))
      have hi2 := HIb.out _ rb lb cap (ae) N HR2s.out (HG.out.kp hN HK2s.out) hN (by simp only [need]; omega)
      simp only [fnOf, argsOf] at hi2
      cases hx2 : pr toks f (.block) (ae) with
      | error ln =>
        replace HS := HS.out
        rw [hx2] at HS
        dsimp only at HS
        replace HS := Lib.hid HS
        rw [hx2] at hi2
        rw [HS.out]
        refine (hi2).mono ?_
        rintro e wz ⟨rfl, hk⟩
        exact ⟨rfl, rfl, HK2s.out.trans hk⟩
      | ok r2 =>
        obtain ⟨tb, ab⟩ := r2
        have hXb := pr_isBlk toks f _ _ _ hx2
        have hLb := pr_least toks f _ _ _ _ hx2
        simp only [What.least] at hLb
        rw [hx2] at hi2
        replace HS := HS.out
        rw [hx2] at HS
        dsimp only at HS
        replace HS := Lib.hid HS
        clear hx2
        refine (hi2).mono ?_
        rintro e w3 ⟨v3, rfl, hk, hr, ha⟩
        obtain ⟨b3, rfl, b31, b32⟩ := ha.ptr_blk hXb
        have x3 := hk.size
        try simp only [szA] at x3 b31 ha
        have HE3 : Hid (w3.heap[w2.heap.size]? = some (.cells #[.int .i64 2, .int .i64 kind, .string text, .int .i64 line, .int .u32 num, .pointer (some ⟨b2, 0, none⟩), .pointer none, .pointer none, .pointer none, .bool false] 150 (0, 0))) := by
          show _ = _
          rw [hk.heap _ (by first | omega | (simp only [szA]; omega)) (by omega), heapA, if_pos rfl] <;> rfl
        have HK3 := Lib.hid (HK2s.out.trans hk)
        have HR3 := Lib.hid hr
        have HAe_3 := Lib.hid (HAe_2s.out.kp hk (by omega) (by first | omega | (simp only [szA]; omega)))
        have HAb_3 := Lib.hid ha
        obtain ⟨q31, q32, q33⟩ := cells_of_heap HE3.out
        clear hk hr ha
        go_wp2_with fail
        have HR3s := Lib.hid (HR3.out.setCell (p := ⟨w2.heap.size, 7, none⟩) (by simp only []; omega) (by simp only []; omega) (.pointer (some ⟨b3, 0, none⟩)))
        have HK3s := Lib.hid (HK3.out.setCell (p := ⟨w2.heap.size, 7, none⟩) (.inr (by simp only []; omega)) (.pointer (some ⟨b3, 0, none⟩)))
        have HAe_3s := Lib.hid (HAe_3.out.set (p := ⟨w2.heap.size, 7, none⟩) (by simp only []; omega) (.pointer (some ⟨b3, 0, none⟩)))
        have HAb_3s := Lib.hid (HAb_3.out.set (p := ⟨w2.heap.size, 7, none⟩) (by simp only []; omega) (.pointer (some ⟨b3, 0, none⟩)))
        cases hel : isB (toks.getD ab default) ⟨#[101, 108, 115, 101]⟩ with
        | false =>
          replace HS := HS.out
          rw [if_neg (by rw [hel]; simp)] at HS
          replace HS := Lib.hid HS
          refine (may_no _ _ HR3s.out hel).mono ?_
          rintro e w4 ⟨rfl, hb⟩
          have x4 := hb.size
          try simp only [szS] at x4
          have HE4 : Hid (w4.heap[w2.heap.size]? = some (.cells #[.int .i64 2, .int .i64 kind, .string text, .int .i64 line, .int .u32 num, .pointer (some ⟨b2, 0, none⟩), .pointer none, .pointer (some ⟨b3, 0, none⟩), .pointer none, .bool false] 150 (0, 0))) := by
            show _ = _
            rw [hb.block _ (by first | omega | (simp only [szS]; omega)), heapS, if_pos rfl, HE3.out] <;> rfl
          have HK4 := Lib.hid (HK3s.out.ext hb)
          have HR4 := Lib.hid (HR3s.out.keep hb)
          have HAe_4 := Lib.hid (HAe_3s.out.kp (hb.kp rb) (by omega) (by first | omega | (simp only [szS]; omega)))
          have HAb_4 := Lib.hid (HAb_3s.out.kp (hb.kp rb) (by omega) (by first | omega | (simp only [szS]; omega)))
          obtain ⟨q41, q42, q43⟩ := cells_of_heap HE4.out
          clear hb q31 q32
          go_wp2_with fail
          go_ret
          rw [HS.out]
          refine ⟨_, rfl, HK4.out, HR4.out, AstAt.stm1 (by first | omega | (simp only [szS, szA, szD]; omega)) (by first | omega | (simp only [szS, szA, szD]; omega)) HE4.out ?_ ?_ ?_ ?_⟩
          · exact HAe_4.out.wide (by first | omega | (simp only [szS, szA, szD]; omega)) (by first | omega | (simp only [szS, szA, szD]; omega))
          · exact rfl
          · exact HAb_4.out.wide (by first | omega | (simp only [szS, szA, szD]; omega)) (by first | omega | (simp only [szS, szA, szD]; omega))
          · exact rfl
        | true =>
          replace HS := HS.out
          rw [if_pos hel] at HS
          replace HS := Lib.hid HS
          refine (may_yes _ _ HR3s.out hel).mono ?_
          rintro e w4 ⟨rfl, hk, hr⟩
          have x4 := hk.size
          try simp only [szS] at x4
          have HE4 : Hid (w4.heap[w2.heap.size]? = some (.cells #[.int .i64 2, .int .i64 kind, .string text, .int .i64 line, .int .u32 num, .pointer (some ⟨b2, 0, none⟩), .pointer none, .pointer (some ⟨b3, 0, none⟩), .pointer none, .bool false] 150 (0, 0))) := by
            show _ = _
            rw [hk.heap _ (by first | omega | (simp only [szS]; omega)) (by omega), heapS, if_pos rfl, HE3.out] <;> rfl
          have HK4 := Lib.hid (HK3s.out.trans hk)
          have HR4 := Lib.hid hr
          have HAe_4 := Lib.hid (HAe_3s.out.kp hk (by omega) (by first | omega | (simp only [szS]; omega)))
          have HAb_4 := Lib.hid (HAb_3s.out.kp hk (by omega) (by first | omega | (simp only [szS]; omega)))
          obtain ⟨q41, q42, q43⟩ := cells_of_heap HE4.out
          clear hk hr q31 q32
          go_wp2_with fail
          have hq := is_any _ ⟨#[105, 102]⟩ HR4.out
          cases hi2 : isB (toks.getD (ab + 1) default) ⟨#[105, 102]⟩ with
          | false =>
            replace HS := HS.out
            rw [if_neg (by rw [hi2]; simp)] at HS
            replace HS := Lib.hid HS
            rw [hi2] at hq
            refine (hq).mono ?_
            rintro e w5 ⟨rfl, hb⟩
            have x5 := hb.size
            try simp only [szS, szA, szD] at x5
            have HE5 : Hid (w5.heap[w2.heap.size]? = some (.cells #[.int .i64 2, .int .i64 kind, .string text, .int .i64 line, .int .u32 num, .pointer (some ⟨b2, 0, none⟩), .pointer none, .pointer (some ⟨b3, 0, none⟩), .pointer none, .bool false] 150 (0, 0))) := by
              show _ = _
              rw [hb.block _ (by first | omega | (simp only [szS, szA, szD]; omega)), HE4.out]
            have HK5 := Lib.hid (HK4.out.ext hb)
            have HR5 := Lib.hid (HR4.out.keep hb)
            have HAe_5 := Lib.hid (HAe_4.out.kp (hb.kp rb) (by omega) (by first | omega | (simp only [szS, szA, szD]; omega)))
            have HAb_5 := Lib.hid (HAb_4.out.kp (hb.kp rb) (by omega) (by first | omega | (simp only [szS, szA, szD]; omega)))
            obtain ⟨q51, q52, q53⟩ := cells_of_heap HE5.out
            clear hb q41 q42
            go_wp2_with fail
            have hi5 := HIb.out _ rb lb cap (ab + 1) N HR5.out (HG.out.kp hN HK5.out) hN (by simp only [need]; omega)
            simp only [fnOf, argsOf] at hi5
            cases hx5 : pr toks f (.block) (ab + 1) with
            | error ln =>
              replace HS := HS.out
              rw [hx5] at HS
              dsimp only at HS
              replace HS := Lib.hid HS
              rw [hx5] at hi5
              rw [HS.out]
              refine (hi5).mono ?_
              rintro e wz ⟨rfl, hk⟩
              exact ⟨rfl, rfl, HK5.out.trans hk⟩
            | ok r5 =>
              obtain ⟨tr, ar⟩ := r5
              have hXr := pr_isBlk toks f _ _ _ hx5
              have hLr := pr_least toks f _ _ _ _ hx5
              simp only [What.least] at hLr
              rw [hx5] at hi5
              replace HS := HS.out
              rw [hx5] at HS
              dsimp only at HS
              replace HS := Lib.hid HS
              clear hx5
              refine (hi5).mono ?_
              rintro e w6 ⟨v6, rfl, hk, hr, ha⟩
              obtain ⟨b6, rfl, b61, b62⟩ := ha.ptr_blk hXr
              have x6 := hk.size
              try simp only [szS, szA, szD] at x6 b61 ha
              have HE6 : Hid (w6.heap[w2.heap.size]? = some (.cells #[.int .i64 2, .int .i64 kind, .string text, .int .i64 line, .int .u32 num, .pointer (some ⟨b2, 0, none⟩), .pointer none, .pointer (some ⟨b3, 0, none⟩), .pointer none, .bool false] 150 (0, 0))) := by
                show _ = _
                rw [hk.heap _ (by first | omega | (simp only [szS, szA, szD]; omega)) (by omega), HE5.out]
              have HK6 := Lib.hid (HK5.out.trans hk)
              have HR6 := Lib.hid hr
              have HAe_6 := Lib.hid (HAe_5.out.kp hk (by omega) (by first | omega | (simp only [szS, szA, szD]; omega)))
              have HAb_6 := Lib.hid (HAb_5.out.kp hk (by omega) (by first | omega | (simp only [szS, szA, szD]; omega)))
              have HAr_6 := Lib.hid ha
              obtain ⟨q61, q62, q63⟩ := cells_of_heap HE6.out
              clear hk hr ha q51 q52
              go_wp2_with fail
              have HR6s := Lib.hid (HR6.out.setCell (p := ⟨w2.heap.size, 8, none⟩) (by simp only []; omega) (by simp only []; omega) (.pointer (some ⟨b6, 0, none⟩)))
              have HK6s := Lib.hid (HK6.out.setCell (p := ⟨w2.heap.size, 8, none⟩) (.inr (by simp only []; omega)) (.pointer (some ⟨b6, 0, none⟩)))
              have HAe_6s := Lib.hid (HAe_6.out.set (p := ⟨w2.heap.size, 8, none⟩) (by simp only []; omega) (.pointer (some ⟨b6, 0, none⟩)))
              have HAb_6s := Lib.hid (HAb_6.out.set (p := ⟨w2.heap.size, 8, none⟩) (by simp only []; omega) (.pointer (some ⟨b6, 0, none⟩)))
              have HAr_6s := Lib.hid (HAr_6.out.set (p := ⟨w2.heap.size, 8, none⟩) (by simp only []; omega) (.pointer (some ⟨b6, 0, none⟩)))
              go_ret
              rw [HS.out]
              refine ⟨_, rfl, HK6s.out, HR6s.out, AstAt.stm1 (by first | omega | (simp only [szS, szA, szD]; omega)) (by first | omega | (simp only [szS]; omega)) (by rw [heapS, if_pos rfl, HE6.out] <;> rfl) ?_ ?_ ?_ ?_⟩
              · exact HAe_6s.out.wide (by first | omega | (simp only [szS, szA, szD]; omega)) (by first | omega | (simp only [szS]; omega))
              · exact rfl
              · exact HAb_6s.out.wide (by first | omega | (simp only [szS, szA, szD]; omega)) (by first | omega | (simp only [szS]; omega))
              · exact HAr_6s.out.wide (by first | omega | (simp only [szS, szA, szD]; omega)) (by first | omega | (simp only [szS]; omega))
          | true =>
            replace HS := HS.out
            rw [if_pos hi2] at HS
            replace HS := Lib.hid HS
            rw [hi2] at hq
            refine (hq).mono ?_
            rintro e w5 ⟨rfl, hb⟩
            have x5 := hb.size
            try simp only [szS, szA, szD] at x5
            have HE5 : Hid (w5.heap[w2.heap.size]? = some (.cells #[.int .i64 2, .int .i64 kind, .string text, .int .i64 line, .int .u32 num, .pointer (some ⟨b2, 0, none⟩), .pointer none, .pointer (some ⟨b3, 0, none⟩), .pointer none, .bool false] 150 (0, 0))) := by
              show _ = _
              rw [hb.block _ (by first | omega | (simp only [szS, szA, szD]; omega)), HE4.out]
            have HK5 := Lib.hid (HK4.out.ext hb)
            have HR5 := Lib.hid (HR4.out.keep hb)
            have HAe_5 := Lib.hid (HAe_4.out.kp (hb.kp rb) (by omega) (by first | omega | (simp only [szS, szA, szD]; omega)))
            have HAb_5 := Lib.hid (HAb_4.out.kp (hb.kp rb) (by omega) (by first | omega | (simp only [szS, szA, szD]; omega)))
            obtain ⟨q51, q52, q53⟩ := cells_of_heap HE5.out
            clear hb q41 q42
            go_wp2_with fail
            have HR5s := Lib.hid (HR5.out.setCell (p := ⟨w2.heap.size, 9, none⟩) (by simp only []; omega) (by simp only []; omega) (.bool true))
            have HK5s := Lib.hid (HK5.out.setCell (p := ⟨w2.heap.size, 9, none⟩) (.inr (by simp only []; omega)) (.bool true))
            have HAe_5s := Lib.hid (HAe_5.out.set (p := ⟨w2.heap.size, 9, none⟩) (by simp only []; omega) (.bool true))
            have HAb_5s := Lib.hid (HAb_5.out.set (p := ⟨w2.heap.size, 9, none⟩) (by simp only []; omega) (.bool true))
            have hi5 := HIc.out _ rb lb cap (ab + 1) N HR5s.out (HG.out.kp hN HK5s.out) hN (by simp only [need]; omega)
            simp only [fnOf, argsOf] at hi5
            cases hx5 : pr toks f (.choice) (ab + 1) with
            | error ln =>
              replace HS := HS.out
              rw [hx5] at HS
              dsimp only at HS
              replace HS := Lib.hid HS
              rw [hx5] at hi5
              rw [HS.out]
              refine (hi5).mono ?_
              rintro e wz ⟨rfl, hk⟩
              exact ⟨rfl, rfl, HK5s.out.trans hk⟩
            | ok r5 =>
              obtain ⟨tr, ar⟩ := r5
              have hXr := pr_isStm toks f _ _ _ _ hx5
              have hLr := pr_least toks f _ _ _ _ hx5
              simp only [What.least] at hLr
              rw [hx5] at hi5
              replace HS := HS.out
              rw [hx5] at HS
              dsimp only at HS
              replace HS := Lib.hid HS
              clear hx5
              refine (hi5).mono ?_
              rintro e w6 ⟨v6, rfl, hk, hr, ha⟩
              obtain ⟨b6, rfl, b61, b62⟩ := ha.ptr_stm hXr
              have x6 := hk.size
              try simp only [szS] at x6 b61 ha
              have HE6 : Hid (w6.heap[w2.heap.size]? = some (.cells #[.int .i64 2, .int .i64 kind, .string text, .int .i64 line, .int .u32 num, .pointer (some ⟨b2, 0, none⟩), .pointer none, .pointer (some ⟨b3, 0, none⟩), .pointer none, .bool true] 150 (0, 0))) := by
                show _ = _
                rw [hk.heap _ (by first | omega | (simp only [szS]; omega)) (by omega), heapS, if_pos rfl, HE5.out] <;> rfl
              have HK6 := Lib.hid (HK5s.out.trans hk)
              have HR6 := Lib.hid hr
              have HAe_6 := Lib.hid (HAe_5s.out.kp hk (by omega) (by first | omega | (simp only [szS]; omega)))
              have HAb_6 := Lib.hid (HAb_5s.out.kp hk (by omega) (by first | omega | (simp only [szS]; omega)))
              have HAr_6 := Lib.hid ha
              obtain ⟨q61, q62, q63⟩ := cells_of_heap HE6.out
              clear hk hr ha q51 q52
              go_wp2_with fail
              have HR6s := Lib.hid (HR6.out.setCell (p := ⟨w2.heap.size, 8, none⟩) (by simp only []; omega) (by simp only []; omega) (.pointer (some ⟨w6.heap.size + 1, 0, none⟩)))
              have HK6s := Lib.hid (HK6.out.setCell (p := ⟨w2.heap.size, 8, none⟩) (.inr (by simp only []; omega)) (.pointer (some ⟨w6.heap.size + 1, 0, none⟩)))
              have HAe_6s := Lib.hid (HAe_6.out.set (p := ⟨w2.heap.size, 8, none⟩) (by simp only []; omega) (.pointer (some ⟨w6.heap.size + 1, 0, none⟩)))
              have HAb_6s := Lib.hid (HAb_6.out.set (p := ⟨w2.heap.size, 8, none⟩) (by simp only []; omega) (.pointer (some ⟨w6.heap.size + 1, 0, none⟩)))
              have HAr_6s := Lib.hid (HAr_6.out.set (p := ⟨w2.heap.size, 8, none⟩) (by simp only []; omega) (.pointer (some ⟨w6.heap.size + 1, 0, none⟩)))
              go_ret
              rw [HS.out]
              refine ⟨_, rfl, (HK6s.out.alloc (.cells #[.pointer (some ⟨b6, 0, none⟩)] 119)).alloc (.cells #[.int .i64 0, .slice (some ⟨w6.heap.size, 0, none⟩) 1 1] 153), (HR6s.out.alloc (.cells #[.pointer (some ⟨b6, 0, none⟩)] 119)).alloc (.cells #[.int .i64 0, .slice (some ⟨w6.heap.size, 0, none⟩) 1 1] 153), AstAt.stm1 (by first | omega | (simp only [szS, szA, szD]; omega)) (by first | omega | (simp only [szS, szA]; omega)) (by rw [heapA, if_neg (by first | omega | (simp only [szS, szA]; omega)), heapA, if_neg (by first | omega | (simp only [szS]; omega)), heapS, if_pos rfl, HE6.out] <;> rfl) ?_ rfl ?_ ?_⟩
              · exact ((HAe_6s.out.kp (((Ext.refl _).alloc (.cells #[.pointer (some ⟨b6, 0, none⟩)] 119)).kp rb) (by omega) (by first | omega | (simp only [szS]; omega))).kp (((Ext.refl _).alloc (.cells #[.int .i64 0, .slice (some ⟨w6.heap.size, 0, none⟩) 1 1] 153)).kp rb) (by omega) (by first | omega | (simp only [szS, szA]; omega))).wide (by first | omega | (simp only [szS, szA, szD]; omega)) (by first | omega | (simp only [szS, szA]; omega))
              · exact ((HAb_6s.out.kp (((Ext.refl _).alloc (.cells #[.pointer (some ⟨b6, 0, none⟩)] 119)).kp rb) (by omega) (by first | omega | (simp only [szS]; omega))).kp (((Ext.refl _).alloc (.cells #[.int .i64 0, .slice (some ⟨w6.heap.size, 0, none⟩) 1 1] 153)).kp rb) (by omega) (by first | omega | (simp only [szS, szA]; omega))).wide (by first | omega | (simp only [szS, szA, szD]; omega)) (by first | omega | (simp only [szS, szA]; omega))
              · refine ⟨w6.heap.size + 1, .slice (some ⟨w6.heap.size, 0, none⟩) 1 1, rfl, (by first | omega | (simp only [szS, szA, szD]; omega)), (by first | omega | (simp only [szS, szA]; omega)), (by rw [heapA, if_pos (by simp only [szS, szA])] <;> rfl), ?_⟩
                refine ⟨w6.heap.size, 0, 0, 1, .pointer (some ⟨b6, 0, none⟩), rfl, (by first | omega | (simp only [szS, szA, szD]; omega)), (by first | omega | (simp only [szS, szA]; omega)), ?_, ?_, ⟨_, _, rfl⟩⟩
                · rw [cell_of_heap (c := #[.pointer (some ⟨b6, 0, none⟩)]) (T := 119) (f := (0, 0)) (by rw [heapA, if_neg (by first | omega | (simp only [szS, szA]; omega)), heapA, if_pos (by simp only [szS])])]; rfl
                · exact ((HAr_6s.out.kp (((Ext.refl _).alloc (.cells #[.pointer (some ⟨b6, 0, none⟩)] 119)).kp rb) (by omega) (by first | omega | (simp only [szS]; omega))).kp (((Ext.refl _).alloc (.cells #[.int .i64 0, .slice (some ⟨w6.heap.size, 0, none⟩) 1 1] 153)).kp rb) (by omega) (by first | omega | (simp only [szS, szA]; omega))).wide (by first | omega | (simp only [szS, szA, szD]; omega)) (by first | omega | (simp only [szS, szA]; omega))
end Go.Proofs.YtgjgaeloehfhiaaGreatDoor
