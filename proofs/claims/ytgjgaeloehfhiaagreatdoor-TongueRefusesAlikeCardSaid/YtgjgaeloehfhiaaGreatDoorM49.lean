/- The law, walked. -/
import Derived.Test.YtgjgaeloehfhiaaGreatDoorM42
import Derived.Test.YtgjgaeloehfhiaaGreatDoorM46
import Derived.Test.YtgjgaeloehfhiaaGreatDoorM47
import Derived.Test.YtgjgaeloehfhiaaGreatDoorM48
namespace Go.Proofs.YtgjgaeloehfhiaaGreatDoor
open Go.RowKit

/-- What holds of the world in which the law is called, and behind all that it calls. -/
structure Env (N : Nat) (w : World) : Prop where
  g : Gl N w
  c : Cb N w
  t : Tb N w
  n : N ≤ w.heap.size
theorem Env.ext {N : Nat} {w w' : World} (h : Env N w) (hE : Ext w w') : Env N w' := ⟨h.g.ext hE, h.c.below h.n hE.below, h.t.ext hE, Nat.le_trans h.n hE.size⟩

/-- What Eval leaves, as far as the law looks at it. -/
def EvSome (w : World) (bad : Bool) (e : Ending) (w' : World) : Prop :=
  ∃ (va : Option Addr) (vn vc : Nat) (x1 x2 x4 : Int) (ln code : Nat), e = .returned (.tuple #[.agg #[.slice va vn vc, .int .i64 x1, .int .i64 x2, .int .i64 0, .int .i64 x4], .int .i64 ln, .int .i64 code]) ∧ Ext w w' ∧ (bad = true → ln = 0 ∧ code = 1)
theorem eval_some {N : Nat} (s : ByteArray) (hs : s.size ≤ maxLen) (fuel : Int) (w : World) (h : Env N w) : Calls Tryz.prog 8 #[.string s, .slice none 0 0, .int .i64 fuel] w (EvSome w (decide (fuel < 0 ∨ 65536 < fuel))) := by
  by_cases hb : fuel < 0 ∨ 65536 < fuel
  · refine (eval_bad s fuel hb w).mono ?_
    rintro e w' ⟨rfl, hE⟩
    exact ⟨none, 0, 0, 0, 0, 0, 0, 1, rfl, hE, fun _ => ⟨rfl, rfl⟩⟩
  · obtain ⟨n, rfl⟩ : ∃ n : Nat, fuel = n := ⟨fuel.toNat, by omega⟩
    refine (eval_any s hs n (by omega) w h.g h.c h.n).mono ?_
    intro e w' hp
    cases hR : takenF s with
    | error q =>
      obtain ⟨ln, code⟩ := q
      rw [hR] at hp
      obtain ⟨rfl, hE⟩ := hp
      exact ⟨none, 0, 0, 0, 0, 0, ln, code, rfl, hE, fun h => absurd (of_decide_eq_true h) hb⟩
    | ok u =>
      rw [hR] at hp
      obtain ⟨va, vc, outs, st, code, used, rfl, hE, -⟩ := hp
      exact ⟨va, _, vc, st, code, used, 0, 0, rfl, hE, fun h => absurd (of_decide_eq_true h) hb⟩
theorem eval_zero {N : Nat} (s : ByteArray) (hs : s.size ≤ maxLen) (w : World) (h : Env N w) : Calls Tryz.prog 8 #[.string s, .slice none 0 0, .int .i64 0] w (EvalPost w 0 (takenF s)) := eval_any s hs 0 (by omega) w h.g h.c h.n

/- Where the variables begin. -/
theorem ats_at : ∀ (ds : List (Tok × Nat)) (a k : Nat), k < ds.length → a ≤ (atsF ds a).getD k 0 ∧ (atsF ds a).getD k 0 < a + sumD ds ∧ (k = 0 → (atsF ds a).getD k 0 = a) ∧ (0 < k → (atsF ds a).getD (k - 1) 0 < (atsF ds a).getD k 0)
  | [], _, k, h => by simp at h
  | d :: ds, a, 0, _ => by simp [atsF, sumD]; omega
  | d :: ds, a, k + 1, h => by
    obtain ⟨h1, h2, h3, h4⟩ := ats_at ds (a + max 1 d.2) k (by simpa using h)
    simp only [atsF, List.getD_cons_succ, sumD, Nat.add_sub_cancel]
    refine ⟨by omega, by omega, fun h => by omega, fun _ => ?_⟩
    cases k with
    | zero => simp only [List.getD_cons_zero]; omega
    | succ k =>
      have := h4 (by omega)
      simpa using this

set_option maxRecDepth 100000 in
set_option maxHeartbeats 6400000 in
theorem law_err0 {N : Nat} (s : ByteArray) (hs : s.size ≤ maxLen) (fuel : Int) (hfl : fuel < 0) (ln code : Nat) (hR : takenF s = .error (ln, code)) (w : World) (henv : Env N w) : Calls Tryz.prog 3 #[.string s, .int .i64 fuel] w fun e w' => e = .returned (.bool true) ∧ Ext w w' := by
  obtain ⟨hcode, hline⟩ := takenF_err hR
  have HLV := Lib.hid (fun W (E : Ext w W) => lives_any W (henv.ext E).g (henv.ext E).c (henv.ext E).n)
  have HCP := Lib.hid (fun W (E : Ext w W) => compile_any s hs W (henv.ext E).g (henv.ext E).c (henv.ext E).n (fun u h => ⟨(takenF_good h).1, (takenF_good h).2.1⟩))
  have HLS := Lib.hid (fun W (E : Ext w W) => listing_any s hs W (henv.ext E).g (henv.ext E).c (henv.ext E).t (henv.ext E).n)
  have HFM := Lib.hid (fun W (E : Ext w W) => format_any s hs W (henv.ext E).g (henv.ext E).c (henv.ext E).t (henv.ext E).n)
  have HE0 := Lib.hid (fun W (E : Ext w W) => eval_zero s hs W (henv.ext E))
  have HDT := Lib.hid (fun W (E : Ext w W) => data_tells s hs W (henv.ext E).g (henv.ext E).c (henv.ext E).n)
  have HEF := Lib.hid (fun W (E : Ext w W) => eval_some s hs fuel W (henv.ext E))
  have hbad : decide (fuel < 0 ∨ 65536 < fuel) = true := by simp; omega
  have hd0 : decide (fuel < 0) = true := by simpa using hfl
  rw [hR] at HCP HLS HFM HE0 HDT
  clear hR henv hfl
  have HBAD := Lib.hid hbad
  clear hbad
  go_enter Tryz.func3, Tryz.ntmps3
  go_wp2_with fail
  refine (HLV.out _ (Ext.refl w)).mono ?_
  rintro e w1 ⟨rfl, hE⟩
  have G1 := Lib.hid hE
  clear hE
  go_wp2_with fail
  refine (HCP.out _ G1.out).mono ?_
  rintro e w2 ⟨rfl, hE⟩
  have G2 := Lib.hid (G1.out.trans hE)
  clear hE G1
  go_wp2_with fail
  refine (HLS.out _ G2.out).mono ?_
  rintro e w3 ⟨rfl, hE⟩
  have G3 := Lib.hid (G2.out.trans hE)
  clear hE G2
  go_wp2_with fail
  refine (HFM.out _ G3.out).mono ?_
  rintro e w4 ⟨rfl, hE⟩
  have G4 := Lib.hid (G3.out.trans hE)
  clear hE G3
  go_wp2_with fail
  refine (HE0.out _ G4.out).mono ?_
  rintro e w5 ⟨rfl, hE⟩
  unfold zeroM
  have G5 := Lib.hid (G4.out.trans (hE.alloc (.cells #[.slice none 0 0, .int .i64 0, .int .i64 0, .int .i64 0, .int .i64 0] 31)))
  clear hE G4
  have hq5 : (w5.alloc (.cells #[.slice none 0 0, .int .i64 0, .int .i64 0, .int .i64 0, .int .i64 0] 31)).heap[w5.heap.size]? = some (.cells #[.slice none 0 0, .int .i64 0, .int .i64 0, .int .i64 0, .int .i64 0] 31 (0, 0)) := by rw [heapA, if_pos rfl]
  have HQ5 := Lib.hid hq5
  clear hq5
  go_wp2_with fail
  refine (HDT.out _ G5.out).mono ?_
  rintro e w6 ⟨rfl, hE⟩
  have hq6 := (hE.block _ (heap_lt HQ5.out)).trans HQ5.out
  have HQ6 := Lib.hid hq6
  clear hq6 HQ5
  have G6 := Lib.hid (G5.out.trans hE)
  clear hE G5
  go_wp2_with fail
  refine (HEF.out _ G6.out).mono ?_
  rintro e w7 ⟨fa, fn, fc, y1, y2, y4, fl, fcode, rfl, hE, hbad2⟩
  have hq7 := ((hE.alloc (.cells #[.slice fa fn fc, .int .i64 y1, .int .i64 y2, .int .i64 0, .int .i64 y4] 31)).block _ (heap_lt HQ6.out)).trans HQ6.out
  obtain ⟨q0, q1, q2⟩ := cells_of_heap hq7
  have q00 := q0 0
  have q01 := q0 1
  have q02 := q0 2
  have q03 := q0 3
  have q04 := q0 4
  simp only [List.getElem?_toArray, List.getElem?_cons_zero, List.getElem?_cons_succ] at q00 q01 q02 q03 q04
  clear q0 q1 hq7 HQ6
  have G7 := Lib.hid (G6.out.trans (hE.alloc (.cells #[.slice fa fn fc, .int .i64 y1, .int .i64 y2, .int .i64 0, .int .i64 y4] 31)))
  clear hE G6 HLV HCP HLS HFM HE0 HDT HEF
  obtain ⟨rfl, rfl⟩ := hbad2 HBAD.out
  clear hbad2
  have hsm := sameMeaning_zero
  unfold zeroM at hsm
  have HSM := Lib.hid hsm
  clear hsm
  have hne : ((code : Int) != 0) = true := by rw [bne_iff_ne]; omega
  rcases hcode with rfl | rfl | rfl
  · have hl : decide ((ln : Int) > 0) = true := by simp; omega
    have hl2 : decide (0 < (ln : Int)) = true := by simp; omega
    have hl3 : 0 < (ln : Int) := by omega
    go_wp2_with fail
    all_goals
      refine (HSM.out _).mono ?_
      rintro e w8 ⟨rfl, hE⟩
      have G8 := Lib.hid (G7.out.trans hE)
      clear hE
      go_wp2_with fail
      all_goals (go_ret; exact ⟨rfl, G8.out⟩)
  · have hl : decide ((ln : Int) > 0) = true := by simp; omega
    have hl2 : decide (0 < (ln : Int)) = true := by simp; omega
    have hl3 : 0 < (ln : Int) := by omega
    go_wp2_with fail
    all_goals
      refine (HSM.out _).mono ?_
      rintro e w8 ⟨rfl, hE⟩
      have G8 := Lib.hid (G7.out.trans hE)
      clear hE
      go_wp2_with fail
      all_goals (go_ret; exact ⟨rfl, G8.out⟩)
  · go_wp2_with fail
    all_goals
      refine (HSM.out _).mono ?_
      rintro e w8 ⟨rfl, hE⟩
      have G8 := Lib.hid (G7.out.trans hE)
      clear hE
      go_wp2_with fail
      all_goals (go_ret; exact ⟨rfl, G8.out⟩)

set_option maxRecDepth 100000 in
set_option maxHeartbeats 6400000 in
theorem law_err1 {N : Nat} (s : ByteArray) (hs : s.size ≤ maxLen) (fuel : Int) (hfl : ¬ fuel < 0 ∧ 65536 < fuel) (ln code : Nat) (hR : takenF s = .error (ln, code)) (w : World) (henv : Env N w) : Calls Tryz.prog 3 #[.string s, .int .i64 fuel] w fun e w' => e = .returned (.bool true) ∧ Ext w w' := by
  obtain ⟨hcode, hline⟩ := takenF_err hR
  have HLV := Lib.hid (fun W (E : Ext w W) => lives_any W (henv.ext E).g (henv.ext E).c (henv.ext E).n)
  have HCP := Lib.hid (fun W (E : Ext w W) => compile_any s hs W (henv.ext E).g (henv.ext E).c (henv.ext E).n (fun u h => ⟨(takenF_good h).1, (takenF_good h).2.1⟩))
  have HLS := Lib.hid (fun W (E : Ext w W) => listing_any s hs W (henv.ext E).g (henv.ext E).c (henv.ext E).t (henv.ext E).n)
  have HFM := Lib.hid (fun W (E : Ext w W) => format_any s hs W (henv.ext E).g (henv.ext E).c (henv.ext E).t (henv.ext E).n)
  have HE0 := Lib.hid (fun W (E : Ext w W) => eval_zero s hs W (henv.ext E))
  have HDT := Lib.hid (fun W (E : Ext w W) => data_tells s hs W (henv.ext E).g (henv.ext E).c (henv.ext E).n)
  have HEF := Lib.hid (fun W (E : Ext w W) => eval_some s hs fuel W (henv.ext E))
  have hbad : decide (fuel < 0 ∨ 65536 < fuel) = true := by simp; omega
  have hd0 : decide (fuel < 0) = false := by simpa using hfl.1
  have hd1 : decide (fuel > 65536) = true := by simpa using hfl.2
  have hd2 : decide (65536 < fuel) = true := by simpa using hfl.2
  rw [hR] at HCP HLS HFM HE0 HDT
  clear hR henv hfl
  have HBAD := Lib.hid hbad
  clear hbad
  go_enter Tryz.func3, Tryz.ntmps3
  go_wp2_with fail
  refine (HLV.out _ (Ext.refl w)).mono ?_
  rintro e w1 ⟨rfl, hE⟩
  have G1 := Lib.hid hE
  clear hE
  go_wp2_with fail
  refine (HCP.out _ G1.out).mono ?_
  rintro e w2 ⟨rfl, hE⟩
  have G2 := Lib.hid (G1.out.trans hE)
  clear hE G1
  go_wp2_with fail
  refine (HLS.out _ G2.out).mono ?_
  rintro e w3 ⟨rfl, hE⟩
  have G3 := Lib.hid (G2.out.trans hE)
  clear hE G2
  go_wp2_with fail
  refine (HFM.out _ G3.out).mono ?_
  rintro e w4 ⟨rfl, hE⟩
  have G4 := Lib.hid (G3.out.trans hE)
  clear hE G3
  go_wp2_with fail
  refine (HE0.out _ G4.out).mono ?_
  rintro e w5 ⟨rfl, hE⟩
  unfold zeroM
  have G5 := Lib.hid (G4.out.trans (hE.alloc (.cells #[.slice none 0 0, .int .i64 0, .int .i64 0, .int .i64 0, .int .i64 0] 31)))
  clear hE G4
  have hq5 : (w5.alloc (.cells #[.slice none 0 0, .int .i64 0, .int .i64 0, .int .i64 0, .int .i64 0] 31)).heap[w5.heap.size]? = some (.cells #[.slice none 0 0, .int .i64 0, .int .i64 0, .int .i64 0, .int .i64 0] 31 (0, 0)) := by rw [heapA, if_pos rfl]
  have HQ5 := Lib.hid hq5
  clear hq5
  go_wp2_with fail
  refine (HDT.out _ G5.out).mono ?_
  rintro e w6 ⟨rfl, hE⟩
  have hq6 := (hE.block _ (heap_lt HQ5.out)).trans HQ5.out
  have HQ6 := Lib.hid hq6
  clear hq6 HQ5
  have G6 := Lib.hid (G5.out.trans hE)
  clear hE G5
  go_wp2_with fail
  refine (HEF.out _ G6.out).mono ?_
  rintro e w7 ⟨fa, fn, fc, y1, y2, y4, fl, fcode, rfl, hE, hbad2⟩
  have hq7 := ((hE.alloc (.cells #[.slice fa fn fc, .int .i64 y1, .int .i64 y2, .int .i64 0, .int .i64 y4] 31)).block _ (heap_lt HQ6.out)).trans HQ6.out
  obtain ⟨q0, q1, q2⟩ := cells_of_heap hq7
  have q00 := q0 0
  have q01 := q0 1
  have q02 := q0 2
  have q03 := q0 3
  have q04 := q0 4
  simp only [List.getElem?_toArray, List.getElem?_cons_zero, List.getElem?_cons_succ] at q00 q01 q02 q03 q04
  clear q0 q1 hq7 HQ6
  have G7 := Lib.hid (G6.out.trans (hE.alloc (.cells #[.slice fa fn fc, .int .i64 y1, .int .i64 y2, .int .i64 0, .int .i64 y4] 31)))
  clear hE G6 HLV HCP HLS HFM HE0 HDT HEF
  obtain ⟨rfl, rfl⟩ := hbad2 HBAD.out
  clear hbad2
  have hsm := sameMeaning_zero
  unfold zeroM at hsm
  have HSM := Lib.hid hsm
  clear hsm
  have hne : ((code : Int) != 0) = true := by rw [bne_iff_ne]; omega
  rcases hcode with rfl | rfl | rfl
  · have hl : decide ((ln : Int) > 0) = true := by simp; omega
    have hl2 : decide (0 < (ln : Int)) = true := by simp; omega
    have hl3 : 0 < (ln : Int) := by omega
    go_wp2_with fail
    all_goals
      refine (HSM.out _).mono ?_
      rintro e w8 ⟨rfl, hE⟩
      have G8 := Lib.hid (G7.out.trans hE)
      clear hE
      go_wp2_with fail
      all_goals (go_ret; exact ⟨rfl, G8.out⟩)
  · have hl : decide ((ln : Int) > 0) = true := by simp; omega
    have hl2 : decide (0 < (ln : Int)) = true := by simp; omega
    have hl3 : 0 < (ln : Int) := by omega
    go_wp2_with fail
    all_goals
      refine (HSM.out _).mono ?_
      rintro e w8 ⟨rfl, hE⟩
      have G8 := Lib.hid (G7.out.trans hE)
      clear hE
      go_wp2_with fail
      all_goals (go_ret; exact ⟨rfl, G8.out⟩)
  · go_wp2_with fail
    all_goals
      refine (HSM.out _).mono ?_
      rintro e w8 ⟨rfl, hE⟩
      have G8 := Lib.hid (G7.out.trans hE)
      clear hE
      go_wp2_with fail
      all_goals (go_ret; exact ⟨rfl, G8.out⟩)

set_option maxRecDepth 100000 in
set_option maxHeartbeats 6400000 in
theorem law_err2 {N : Nat} (s : ByteArray) (hs : s.size ≤ maxLen) (fuel : Int) (hfl : ¬ fuel < 0 ∧ ¬ 65536 < fuel) (ln code : Nat) (hR : takenF s = .error (ln, code)) (w : World) (henv : Env N w) : Calls Tryz.prog 3 #[.string s, .int .i64 fuel] w fun e w' => e = .returned (.bool true) ∧ Ext w w' := by
  obtain ⟨hcode, hline⟩ := takenF_err hR
  have HLV := Lib.hid (fun W (E : Ext w W) => lives_any W (henv.ext E).g (henv.ext E).c (henv.ext E).n)
  have HCP := Lib.hid (fun W (E : Ext w W) => compile_any s hs W (henv.ext E).g (henv.ext E).c (henv.ext E).n (fun u h => ⟨(takenF_good h).1, (takenF_good h).2.1⟩))
  have HLS := Lib.hid (fun W (E : Ext w W) => listing_any s hs W (henv.ext E).g (henv.ext E).c (henv.ext E).t (henv.ext E).n)
  have HFM := Lib.hid (fun W (E : Ext w W) => format_any s hs W (henv.ext E).g (henv.ext E).c (henv.ext E).t (henv.ext E).n)
  have HE0 := Lib.hid (fun W (E : Ext w W) => eval_zero s hs W (henv.ext E))
  have HDT := Lib.hid (fun W (E : Ext w W) => data_tells s hs W (henv.ext E).g (henv.ext E).c (henv.ext E).n)
  have HEF := Lib.hid (fun W (E : Ext w W) => eval_some s hs fuel W (henv.ext E))
  have hd0 : decide (fuel < 0) = false := by simpa using hfl.1
  have hd1 : decide (fuel > 65536) = false := by simpa using hfl.2
  have hd2 : decide (65536 < fuel) = false := by simpa using hfl.2
  rw [hR] at HCP HLS HFM HE0 HDT
  clear hR henv hfl
  go_enter Tryz.func3, Tryz.ntmps3
  go_wp2_with fail
  refine (HLV.out _ (Ext.refl w)).mono ?_
  rintro e w1 ⟨rfl, hE⟩
  have G1 := Lib.hid hE
  clear hE
  go_wp2_with fail
  refine (HCP.out _ G1.out).mono ?_
  rintro e w2 ⟨rfl, hE⟩
  have G2 := Lib.hid (G1.out.trans hE)
  clear hE G1
  go_wp2_with fail
  refine (HLS.out _ G2.out).mono ?_
  rintro e w3 ⟨rfl, hE⟩
  have G3 := Lib.hid (G2.out.trans hE)
  clear hE G2
  go_wp2_with fail
  refine (HFM.out _ G3.out).mono ?_
  rintro e w4 ⟨rfl, hE⟩
  have G4 := Lib.hid (G3.out.trans hE)
  clear hE G3
  go_wp2_with fail
  refine (HE0.out _ G4.out).mono ?_
  rintro e w5 ⟨rfl, hE⟩
  unfold zeroM
  have G5 := Lib.hid (G4.out.trans (hE.alloc (.cells #[.slice none 0 0, .int .i64 0, .int .i64 0, .int .i64 0, .int .i64 0] 31)))
  clear hE G4
  have hq5 : (w5.alloc (.cells #[.slice none 0 0, .int .i64 0, .int .i64 0, .int .i64 0, .int .i64 0] 31)).heap[w5.heap.size]? = some (.cells #[.slice none 0 0, .int .i64 0, .int .i64 0, .int .i64 0, .int .i64 0] 31 (0, 0)) := by rw [heapA, if_pos rfl]
  have HQ5 := Lib.hid hq5
  clear hq5
  go_wp2_with fail
  refine (HDT.out _ G5.out).mono ?_
  rintro e w6 ⟨rfl, hE⟩
  have hq6 := (hE.block _ (heap_lt HQ5.out)).trans HQ5.out
  have HQ6 := Lib.hid hq6
  clear hq6 HQ5
  have G6 := Lib.hid (G5.out.trans hE)
  clear hE G5
  go_wp2_with fail
  refine (HEF.out _ G6.out).mono ?_
  rintro e w7 ⟨fa, fn, fc, y1, y2, y4, fl, fcode, rfl, hE, hbad2⟩
  have hq7 := ((hE.alloc (.cells #[.slice fa fn fc, .int .i64 y1, .int .i64 y2, .int .i64 0, .int .i64 y4] 31)).block _ (heap_lt HQ6.out)).trans HQ6.out
  obtain ⟨q0, q1, q2⟩ := cells_of_heap hq7
  have q00 := q0 0
  have q01 := q0 1
  have q02 := q0 2
  have q03 := q0 3
  have q04 := q0 4
  simp only [List.getElem?_toArray, List.getElem?_cons_zero, List.getElem?_cons_succ] at q00 q01 q02 q03 q04
  clear q0 q1 hq7 HQ6
  have G7 := Lib.hid (G6.out.trans (hE.alloc (.cells #[.slice fa fn fc, .int .i64 y1, .int .i64 y2, .int .i64 0, .int .i64 y4] 31)))
  clear hE G6 HLV HCP HLS HFM HE0 HDT HEF
  clear hbad2
  have hsm := sameMeaning_zero
  unfold zeroM at hsm
  have HSM := Lib.hid hsm
  clear hsm
  have hne : ((code : Int) != 0) = true := by rw [bne_iff_ne]; omega
  rcases hcode with rfl | rfl | rfl
  · have hl : decide ((ln : Int) > 0) = true := by simp; omega
    have hl2 : decide (0 < (ln : Int)) = true := by simp; omega
    have hl3 : 0 < (ln : Int) := by omega
    go_wp2_with fail
    all_goals
      refine (HSM.out _).mono ?_
      rintro e w8 ⟨rfl, hE⟩
      have G8 := Lib.hid (G7.out.trans hE)
      clear hE
      go_wp2_with fail
      all_goals (go_ret; exact ⟨rfl, G8.out⟩)
  · have hl : decide ((ln : Int) > 0) = true := by simp; omega
    have hl2 : decide (0 < (ln : Int)) = true := by simp; omega
    have hl3 : 0 < (ln : Int) := by omega
    go_wp2_with fail
    all_goals
      refine (HSM.out _).mono ?_
      rintro e w8 ⟨rfl, hE⟩
      have G8 := Lib.hid (G7.out.trans hE)
      clear hE
      go_wp2_with fail
      all_goals (go_ret; exact ⟨rfl, G8.out⟩)
  · go_wp2_with fail
    all_goals
      refine (HSM.out _).mono ?_
      rintro e w8 ⟨rfl, hE⟩
      have G8 := Lib.hid (G7.out.trans hE)
      clear hE
      go_wp2_with fail
      all_goals (go_ret; exact ⟨rfl, G8.out⟩)

set_option maxRecDepth 100000 in
set_option maxHeartbeats 12800000 in
theorem law_ok0 {N : Nat} (s : ByteArray) (hs : s.size ≤ maxLen) (fuel : Int) (hfl : fuel < 0) (u : UnitF) (hR : takenF s = .ok u) (w : World) (henv : Env N w) : Calls Tryz.prog 3 #[.string s, .int .i64 fuel] w fun e w' => e = .returned (.bool true) ∧ Ext w w' := by
  obtain ⟨hgd, hcl384, hcl5', -, -, -, -, -, -, hsum, -, hdl, -⟩ := takenF_good hR
  have hcl5 : 0 < u.code.length := by omega
  have HLV := Lib.hid (fun W (E : Ext w W) => lives_any W (henv.ext E).g (henv.ext E).c (henv.ext E).n)
  have HCP := Lib.hid (fun W (E : Ext w W) => compile_any s hs W (henv.ext E).g (henv.ext E).c (henv.ext E).n (fun u h => ⟨(takenF_good h).1, (takenF_good h).2.1⟩))
  have HLS := Lib.hid (fun W (E : Ext w W) => listing_any s hs W (henv.ext E).g (henv.ext E).c (henv.ext E).t (henv.ext E).n)
  have HFM := Lib.hid (fun W (E : Ext w W) => format_any s hs W (henv.ext E).g (henv.ext E).c (henv.ext E).t (henv.ext E).n)
  have HE0 := Lib.hid (fun W (E : Ext w W) => eval_zero s hs W (henv.ext E))
  have HDT := Lib.hid (fun W (E : Ext w W) => data_tells s hs W (henv.ext E).g (henv.ext E).c (henv.ext E).n)
  have HEF := Lib.hid (fun W (E : Ext w W) => eval_some s hs fuel W (henv.ext E))
  have HAS := Lib.hid (fun W (E : Ext w W) => assemble_any u.code hgd hcl384 W (henv.ext E).g (henv.ext E).n)
  have hbad : decide (fuel < 0 ∨ 65536 < fuel) = true := by simp; omega
  have hd0 : decide (fuel < 0) = true := by simpa using hfl
  have hats := fun k (hk : k < u.ds.length) => ats_at u.ds 384 k hk
  rw [hR] at HCP HLS HFM HE0 HDT
  have HATS := Lib.hid hats
  clear hR henv hfl hgd hats
  have HBAD := Lib.hid hbad
  clear hbad
  go_enter Tryz.func3, Tryz.ntmps3
  go_wp2_with fail
  refine (HLV.out _ (Ext.refl w)).mono ?_
  rintro e w1 ⟨rfl, hE⟩
  have G1 := Lib.hid hE
  clear hE
  go_wp2_with fail
  refine (HCP.out _ G1.out).mono ?_
  rintro e w2 ⟨v, rfl, hE, hrow⟩
  obtain ⟨gc, cc, rfl⟩ := own_slc hrow hcl5
  have HROW := Lib.hid hrow
  clear hrow
  have G2 := Lib.hid (G1.out.trans hE)
  clear hE G1
  go_wp2_with fail
  refine (HLS.out _ G2.out).mono ?_
  rintro e w3 ⟨rfl, hE⟩
  have K3 := Lib.hid hE
  have G3 := Lib.hid (G2.out.trans hE)
  clear hE G2
  go_wp2_with fail
  refine (HFM.out _ G3.out).mono ?_
  rintro e w4 ⟨fs, rfl, hE⟩
  have K4 := Lib.hid (K3.out.trans hE)
  have G4 := Lib.hid (G3.out.trans hE)
  clear hE G3
  go_wp2_with fail
  refine (HE0.out _ G4.out).mono ?_
  rintro e w5 ⟨va, vc, outs, st, code, used, rfl, hE, -, -⟩
  have K5 := Lib.hid (K4.out.trans (hE.alloc (.cells #[.slice va outs.length vc, .int .i64 st, .int .i64 code, .int .i64 0, .int .i64 (used : Int)] 31)))
  have G5 := Lib.hid (G4.out.trans (hE.alloc (.cells #[.slice va outs.length vc, .int .i64 st, .int .i64 code, .int .i64 0, .int .i64 (used : Int)] 31)))
  clear hE G4
  go_wp2_with fail
  refine (HDT.out _ G5.out).mono ?_
  rintro e w6 ⟨v1, v2, rfl, hE, hr1, hr2⟩
  obtain ⟨a1, c1, rfl⟩ := own_form hr1
  obtain ⟨a2, c2, rfl⟩ := own_form hr2
  have HR2 := Lib.hid hr2
  have K6 := Lib.hid (K5.out.trans hE)
  clear hr1 hr2
  have G6 := Lib.hid (G5.out.trans hE)
  clear hE G5
  go_wp2_with fail
  refine (HEF.out _ G6.out).mono ?_
  rintro e w7 ⟨fa, fn, fc, y1, y2, y4, fl, fcode, rfl, hE, hbad2⟩
  have K7 := Lib.hid (K6.out.trans (hE.alloc (.cells #[.slice fa fn fc, .int .i64 y1, .int .i64 y2, .int .i64 0, .int .i64 y4] 31)))
  have K67 := Lib.hid (hE.alloc (.cells #[.slice fa fn fc, .int .i64 y1, .int .i64 y2, .int .i64 0, .int .i64 y4] 31))
  have G7 := Lib.hid (G6.out.trans (hE.alloc (.cells #[.slice fa fn fc, .int .i64 y1, .int .i64 y2, .int .i64 0, .int .i64 y4] 31)))
  clear hE G6 HLV HCP HLS HFM HE0 HDT HEF
  obtain ⟨rfl, rfl⟩ := hbad2 HBAD.out
  clear hbad2
  go_wp2_with fail
  refine (HAS.out _ G7.out).mono ?_
  rintro e w8 ⟨v, rfl, hE, hrow⟩
  obtain ⟨ga, ca, rfl⟩ := own_slc hrow hcl5
  have G8 := Lib.hid (G7.out.trans hE)
  have hrowc : w8.ownsRow _ 41 1 (.slice (some ⟨gc, 0, none⟩) u.code.length cc) u.code.length (u.code.map fun i => wordV i.word) := own_keep HROW.out (fun q hq => (K7.out.trans hE).block q (own_block HROW.out hq).2) (Nat.le_refl _)
  have hxl : (u.code.map Ins.word).length = u.code.length := by simp
  have hcells : ∀ (base g c : Nat), w8.ownsRow base 41 1 (.slice (some ⟨g, 0, none⟩) u.code.length c) u.code.length (u.code.map fun i => wordV i.word) → g < w8.heap.size ∧ ∀ k, k < (u.code.map Ins.word).length → w8.cell? ⟨g, k, none⟩ = some (wordV ((u.code.map Ins.word).getD k 0)) := fun base g c h => by
    refine ⟨(own_block h (g := g) rfl).2, fun k hk => ?_⟩
    rw [hxl] at hk
    have := World.ownsRow.cellAt h k (by omega)
    rw [this]
    simp [List.getD_eq_getElem?_getD, hk]
  obtain ⟨b1, b2⟩ := hcells _ _ _ hrow
  obtain ⟨b3, b4⟩ := hcells _ _ _ hrowc
  have hsw := sameWords_yes (u.code.map Ins.word) (by omega) ga ca gc cc w8 b1 b3 b2 b4
  rw [hxl] at hsw
  have HSW := Lib.hid hsw
  have K68 := Lib.hid (K67.out.trans hE)
  clear hE hrow hrowc hxl hcells b1 b2 b3 b4 hsw HROW HAS G7 K7 K67
  go_wp2_with fail
  refine HSW.out.mono ?_
  rintro e w9 ⟨rfl, hE⟩
  have G9 := Lib.hid (G8.out.trans hE)
  have hrow2 := own_keep (w' := w9) HR2.out (fun q hq => (K68.out.trans hE).block q (own_block HR2.out hq).2) (Nat.le_refl _)
  have HROW2 := Lib.hid hrow2
  clear hE hrow2 HSW HR2 K68 G8
  go_wp2_with fail
  go_loopw [28] (fun i wr => ∃ k : Nat, k ≤ u.ds.length ∧ i = .int .i64 k ∧ Hid (Ext w9 wr)) (fun i _ => u.ds.length - (intOf i).toNat)
  case atStart => exact ⟨0, by omega, rfl, Lib.hid (Ext.refl _)⟩
  case round =>
    obtain ⟨k, hk, rfl, HX⟩ := hrel
    by_cases hlt : k < u.ds.length
    · obtain ⟨h1, h2, h3, h4⟩ := HATS.out k hlt
      obtain ⟨g2, cp2, hv2⟩ := own_slc HROW2.out (by omega)
      injection hv2 with hv2 hvn hvc
      clear hvn
      subst hv2 hvc
      have hgb := (own_block HROW2.out (g := g2) rfl).2
      have hal : (atsF u.ds 384).length = u.ds.length := atsF_len _ _
      have hcell : ∀ j, j < u.ds.length → wr.cell? ⟨g2, j, none⟩ = some (.int .i64 (((atsF u.ds 384).getD j 0 : Nat) : Int)) := fun j hj => by
        rw [HX.out.cell g2 j hgb, World.ownsRow.cellAt HROW2.out j (by omega)]
        simp [natV, List.getD_eq_getElem?_getD, hal, hj]
      have e0 := hcell k hlt
      rcases Nat.eq_zero_or_pos k with rfl | hkp
      · have h3' := h3 rfl
        rw [h3'] at e0
        have e0' : wr.cell? ⟨g2, 0, none⟩ = some (.int .i64 384) := e0
        clear h1 h2 h3 h4 h3' hcell hal e0
        go_wp2_with fail
        go_quiet (fail)
        go_wp2_with fail
        all_goals exact ⟨⟨1, by omega, by go_num, Lib.hid (HX.out.drewN _)⟩, by simp [intOf]; omega⟩
      · have h4' := h4 hkp
        have e1 := hcell (k - 1) (by omega)
        generalize (atsF u.ds 384).getD k 0 = x at *
        generalize (atsF u.ds 384).getD (k - 1) 0 = y at *
        have t1 : decide ((x : Int) < 384) = false := by simp; omega
        have t2 : decide ((x : Int) > 479) = false := by simp; omega
        have t3 : decide (479 < (x : Int)) = false := by simp; omega
        have t4 : ((k : Int) == 0) = false := by simp; omega
        have t5 : decide ((k : Int) > 0) = true := by simp; omega
        have t6 : decide (0 < (k : Int)) = true := by simp; omega
        have t7 : IntKind.i64.wrap ((k : Int) - 1) = ((k - 1 : Nat) : Int) := by rw [show ((k : Int) - 1) = ((k - 1 : Nat) : Int) by omega]; exact IntWalk.i64_in _ (by omega)
        have t8 : decide ((x : Int) ≤ (y : Int)) = false := by simp; omega
        clear h3 h4 hcell hal
        go_wp2_with fail
        go_quiet (fail)
        go_wp2_with fail
        all_goals exact ⟨⟨k + 1, by omega, by go_num, Lib.hid (HX.out.drewN _)⟩, by simp [intOf]; omega⟩
    · obtain rfl : k = u.ds.length := by omega
      go_wp2_with fail
      go_ret
      exact ⟨rfl, G9.out.trans HX.out⟩

set_option maxRecDepth 100000 in
set_option maxHeartbeats 12800000 in
theorem law_ok1 {N : Nat} (s : ByteArray) (hs : s.size ≤ maxLen) (fuel : Int) (hfl : ¬ fuel < 0 ∧ 65536 < fuel) (u : UnitF) (hR : takenF s = .ok u) (w : World) (henv : Env N w) : Calls Tryz.prog 3 #[.string s, .int .i64 fuel] w fun e w' => e = .returned (.bool true) ∧ Ext w w' := by
  obtain ⟨hgd, hcl384, hcl5', -, -, -, -, -, -, hsum, -, hdl, -⟩ := takenF_good hR
  have hcl5 : 0 < u.code.length := by omega
  have HLV := Lib.hid (fun W (E : Ext w W) => lives_any W (henv.ext E).g (henv.ext E).c (henv.ext E).n)
  have HCP := Lib.hid (fun W (E : Ext w W) => compile_any s hs W (henv.ext E).g (henv.ext E).c (henv.ext E).n (fun u h => ⟨(takenF_good h).1, (takenF_good h).2.1⟩))
  have HLS := Lib.hid (fun W (E : Ext w W) => listing_any s hs W (henv.ext E).g (henv.ext E).c (henv.ext E).t (henv.ext E).n)
  have HFM := Lib.hid (fun W (E : Ext w W) => format_any s hs W (henv.ext E).g (henv.ext E).c (henv.ext E).t (henv.ext E).n)
  have HE0 := Lib.hid (fun W (E : Ext w W) => eval_zero s hs W (henv.ext E))
  have HDT := Lib.hid (fun W (E : Ext w W) => data_tells s hs W (henv.ext E).g (henv.ext E).c (henv.ext E).n)
  have HEF := Lib.hid (fun W (E : Ext w W) => eval_some s hs fuel W (henv.ext E))
  have HAS := Lib.hid (fun W (E : Ext w W) => assemble_any u.code hgd hcl384 W (henv.ext E).g (henv.ext E).n)
  have hbad : decide (fuel < 0 ∨ 65536 < fuel) = true := by simp; omega
  have hd0 : decide (fuel < 0) = false := by simpa using hfl.1
  have hd1 : decide (fuel > 65536) = true := by simpa using hfl.2
  have hd2 : decide (65536 < fuel) = true := by simpa using hfl.2
  have hats := fun k (hk : k < u.ds.length) => ats_at u.ds 384 k hk
  rw [hR] at HCP HLS HFM HE0 HDT
  have HATS := Lib.hid hats
  clear hR henv hfl hgd hats
  have HBAD := Lib.hid hbad
  clear hbad
  go_enter Tryz.func3, Tryz.ntmps3
  go_wp2_with fail
  refine (HLV.out _ (Ext.refl w)).mono ?_
  rintro e w1 ⟨rfl, hE⟩
  have G1 := Lib.hid hE
  clear hE
  go_wp2_with fail
  refine (HCP.out _ G1.out).mono ?_
  rintro e w2 ⟨v, rfl, hE, hrow⟩
  obtain ⟨gc, cc, rfl⟩ := own_slc hrow hcl5
  have HROW := Lib.hid hrow
  clear hrow
  have G2 := Lib.hid (G1.out.trans hE)
  clear hE G1
  go_wp2_with fail
  refine (HLS.out _ G2.out).mono ?_
  rintro e w3 ⟨rfl, hE⟩
  have K3 := Lib.hid hE
  have G3 := Lib.hid (G2.out.trans hE)
  clear hE G2
  go_wp2_with fail
  refine (HFM.out _ G3.out).mono ?_
  rintro e w4 ⟨fs, rfl, hE⟩
  have K4 := Lib.hid (K3.out.trans hE)
  have G4 := Lib.hid (G3.out.trans hE)
  clear hE G3
  go_wp2_with fail
  refine (HE0.out _ G4.out).mono ?_
  rintro e w5 ⟨va, vc, outs, st, code, used, rfl, hE, -, -⟩
  have K5 := Lib.hid (K4.out.trans (hE.alloc (.cells #[.slice va outs.length vc, .int .i64 st, .int .i64 code, .int .i64 0, .int .i64 (used : Int)] 31)))
  have G5 := Lib.hid (G4.out.trans (hE.alloc (.cells #[.slice va outs.length vc, .int .i64 st, .int .i64 code, .int .i64 0, .int .i64 (used : Int)] 31)))
  clear hE G4
  go_wp2_with fail
  refine (HDT.out _ G5.out).mono ?_
  rintro e w6 ⟨v1, v2, rfl, hE, hr1, hr2⟩
  obtain ⟨a1, c1, rfl⟩ := own_form hr1
  obtain ⟨a2, c2, rfl⟩ := own_form hr2
  have HR2 := Lib.hid hr2
  have K6 := Lib.hid (K5.out.trans hE)
  clear hr1 hr2
  have G6 := Lib.hid (G5.out.trans hE)
  clear hE G5
  go_wp2_with fail
  refine (HEF.out _ G6.out).mono ?_
  rintro e w7 ⟨fa, fn, fc, y1, y2, y4, fl, fcode, rfl, hE, hbad2⟩
  have K7 := Lib.hid (K6.out.trans (hE.alloc (.cells #[.slice fa fn fc, .int .i64 y1, .int .i64 y2, .int .i64 0, .int .i64 y4] 31)))
  have K67 := Lib.hid (hE.alloc (.cells #[.slice fa fn fc, .int .i64 y1, .int .i64 y2, .int .i64 0, .int .i64 y4] 31))
  have G7 := Lib.hid (G6.out.trans (hE.alloc (.cells #[.slice fa fn fc, .int .i64 y1, .int .i64 y2, .int .i64 0, .int .i64 y4] 31)))
  clear hE G6 HLV HCP HLS HFM HE0 HDT HEF
  obtain ⟨rfl, rfl⟩ := hbad2 HBAD.out
  clear hbad2
  go_wp2_with fail
  refine (HAS.out _ G7.out).mono ?_
  rintro e w8 ⟨v, rfl, hE, hrow⟩
  obtain ⟨ga, ca, rfl⟩ := own_slc hrow hcl5
  have G8 := Lib.hid (G7.out.trans hE)
  have hrowc : w8.ownsRow _ 41 1 (.slice (some ⟨gc, 0, none⟩) u.code.length cc) u.code.length (u.code.map fun i => wordV i.word) := own_keep HROW.out (fun q hq => (K7.out.trans hE).block q (own_block HROW.out hq).2) (Nat.le_refl _)
  have hxl : (u.code.map Ins.word).length = u.code.length := by simp
  have hcells : ∀ (base g c : Nat), w8.ownsRow base 41 1 (.slice (some ⟨g, 0, none⟩) u.code.length c) u.code.length (u.code.map fun i => wordV i.word) → g < w8.heap.size ∧ ∀ k, k < (u.code.map Ins.word).length → w8.cell? ⟨g, k, none⟩ = some (wordV ((u.code.map Ins.word).getD k 0)) := fun base g c h => by
    refine ⟨(own_block h (g := g) rfl).2, fun k hk => ?_⟩
    rw [hxl] at hk
    have := World.ownsRow.cellAt h k (by omega)
    rw [this]
    simp [List.getD_eq_getElem?_getD, hk]
  obtain ⟨b1, b2⟩ := hcells _ _ _ hrow
  obtain ⟨b3, b4⟩ := hcells _ _ _ hrowc
  have hsw := sameWords_yes (u.code.map Ins.word) (by omega) ga ca gc cc w8 b1 b3 b2 b4
  rw [hxl] at hsw
  have HSW := Lib.hid hsw
  have K68 := Lib.hid (K67.out.trans hE)
  clear hE hrow hrowc hxl hcells b1 b2 b3 b4 hsw HROW HAS G7 K7 K67
  go_wp2_with fail
  refine HSW.out.mono ?_
  rintro e w9 ⟨rfl, hE⟩
  have G9 := Lib.hid (G8.out.trans hE)
  have hrow2 := own_keep (w' := w9) HR2.out (fun q hq => (K68.out.trans hE).block q (own_block HR2.out hq).2) (Nat.le_refl _)
  have HROW2 := Lib.hid hrow2
  clear hE hrow2 HSW HR2 K68 G8
  go_wp2_with fail
  go_loopw [28] (fun i wr => ∃ k : Nat, k ≤ u.ds.length ∧ i = .int .i64 k ∧ Hid (Ext w9 wr)) (fun i _ => u.ds.length - (intOf i).toNat)
  case atStart => exact ⟨0, by omega, rfl, Lib.hid (Ext.refl _)⟩
  case round =>
    obtain ⟨k, hk, rfl, HX⟩ := hrel
    by_cases hlt : k < u.ds.length
    · obtain ⟨h1, h2, h3, h4⟩ := HATS.out k hlt
      obtain ⟨g2, cp2, hv2⟩ := own_slc HROW2.out (by omega)
      injection hv2 with hv2 hvn hvc
      clear hvn
      subst hv2 hvc
      have hgb := (own_block HROW2.out (g := g2) rfl).2
      have hal : (atsF u.ds 384).length = u.ds.length := atsF_len _ _
      have hcell : ∀ j, j < u.ds.length → wr.cell? ⟨g2, j, none⟩ = some (.int .i64 (((atsF u.ds 384).getD j 0 : Nat) : Int)) := fun j hj => by
        rw [HX.out.cell g2 j hgb, World.ownsRow.cellAt HROW2.out j (by omega)]
        simp [natV, List.getD_eq_getElem?_getD, hal, hj]
      have e0 := hcell k hlt
      rcases Nat.eq_zero_or_pos k with rfl | hkp
      · have h3' := h3 rfl
        rw [h3'] at e0
        have e0' : wr.cell? ⟨g2, 0, none⟩ = some (.int .i64 384) := e0
        clear h1 h2 h3 h4 h3' hcell hal e0
        go_wp2_with fail
        go_quiet (fail)
        go_wp2_with fail
        all_goals exact ⟨⟨1, by omega, by go_num, Lib.hid (HX.out.drewN _)⟩, by simp [intOf]; omega⟩
      · have h4' := h4 hkp
        have e1 := hcell (k - 1) (by omega)
        generalize (atsF u.ds 384).getD k 0 = x at *
        generalize (atsF u.ds 384).getD (k - 1) 0 = y at *
        have t1 : decide ((x : Int) < 384) = false := by simp; omega
        have t2 : decide ((x : Int) > 479) = false := by simp; omega
        have t3 : decide (479 < (x : Int)) = false := by simp; omega
        have t4 : ((k : Int) == 0) = false := by simp; omega
        have t5 : decide ((k : Int) > 0) = true := by simp; omega
        have t6 : decide (0 < (k : Int)) = true := by simp; omega
        have t7 : IntKind.i64.wrap ((k : Int) - 1) = ((k - 1 : Nat) : Int) := by rw [show ((k : Int) - 1) = ((k - 1 : Nat) : Int) by omega]; exact IntWalk.i64_in _ (by omega)
        have t8 : decide ((x : Int) ≤ (y : Int)) = false := by simp; omega
        clear h3 h4 hcell hal
        go_wp2_with fail
        go_quiet (fail)
        go_wp2_with fail
        all_goals exact ⟨⟨k + 1, by omega, by go_num, Lib.hid (HX.out.drewN _)⟩, by simp [intOf]; omega⟩
    · obtain rfl : k = u.ds.length := by omega
      go_wp2_with fail
      go_ret
      exact ⟨rfl, G9.out.trans HX.out⟩

set_option maxRecDepth 100000 in
set_option maxHeartbeats 12800000 in
theorem law_ok2 {N : Nat} (s : ByteArray) (hs : s.size ≤ maxLen) (fuel : Int) (hfl : ¬ fuel < 0 ∧ ¬ 65536 < fuel) (u : UnitF) (hR : takenF s = .ok u) (w : World) (henv : Env N w) : Calls Tryz.prog 3 #[.string s, .int .i64 fuel] w fun e w' => e = .returned (.bool true) ∧ Ext w w' := by
  obtain ⟨hgd, hcl384, hcl5', -, -, -, -, -, -, hsum, -, hdl, -⟩ := takenF_good hR
  have hcl5 : 0 < u.code.length := by omega
  have HLV := Lib.hid (fun W (E : Ext w W) => lives_any W (henv.ext E).g (henv.ext E).c (henv.ext E).n)
  have HCP := Lib.hid (fun W (E : Ext w W) => compile_any s hs W (henv.ext E).g (henv.ext E).c (henv.ext E).n (fun u h => ⟨(takenF_good h).1, (takenF_good h).2.1⟩))
  have HLS := Lib.hid (fun W (E : Ext w W) => listing_any s hs W (henv.ext E).g (henv.ext E).c (henv.ext E).t (henv.ext E).n)
  have HFM := Lib.hid (fun W (E : Ext w W) => format_any s hs W (henv.ext E).g (henv.ext E).c (henv.ext E).t (henv.ext E).n)
  have HE0 := Lib.hid (fun W (E : Ext w W) => eval_zero s hs W (henv.ext E))
  have HDT := Lib.hid (fun W (E : Ext w W) => data_tells s hs W (henv.ext E).g (henv.ext E).c (henv.ext E).n)
  have HEF := Lib.hid (fun W (E : Ext w W) => eval_some s hs fuel W (henv.ext E))
  have HAS := Lib.hid (fun W (E : Ext w W) => assemble_any u.code hgd hcl384 W (henv.ext E).g (henv.ext E).n)
  have hd0 : decide (fuel < 0) = false := by simpa using hfl.1
  have hd1 : decide (fuel > 65536) = false := by simpa using hfl.2
  have hd2 : decide (65536 < fuel) = false := by simpa using hfl.2
  have hats := fun k (hk : k < u.ds.length) => ats_at u.ds 384 k hk
  rw [hR] at HCP HLS HFM HE0 HDT
  have HATS := Lib.hid hats
  clear hR henv hfl hgd hats
  go_enter Tryz.func3, Tryz.ntmps3
  go_wp2_with fail
  refine (HLV.out _ (Ext.refl w)).mono ?_
  rintro e w1 ⟨rfl, hE⟩
  have G1 := Lib.hid hE
  clear hE
  go_wp2_with fail
  refine (HCP.out _ G1.out).mono ?_
  rintro e w2 ⟨v, rfl, hE, hrow⟩
  obtain ⟨gc, cc, rfl⟩ := own_slc hrow hcl5
  have HROW := Lib.hid hrow
  clear hrow
  have G2 := Lib.hid (G1.out.trans hE)
  clear hE G1
  go_wp2_with fail
  refine (HLS.out _ G2.out).mono ?_
  rintro e w3 ⟨rfl, hE⟩
  have K3 := Lib.hid hE
  have G3 := Lib.hid (G2.out.trans hE)
  clear hE G2
  go_wp2_with fail
  refine (HFM.out _ G3.out).mono ?_
  rintro e w4 ⟨fs, rfl, hE⟩
  have K4 := Lib.hid (K3.out.trans hE)
  have G4 := Lib.hid (G3.out.trans hE)
  clear hE G3
  go_wp2_with fail
  refine (HE0.out _ G4.out).mono ?_
  rintro e w5 ⟨va, vc, outs, st, code, used, rfl, hE, -, -⟩
  have K5 := Lib.hid (K4.out.trans (hE.alloc (.cells #[.slice va outs.length vc, .int .i64 st, .int .i64 code, .int .i64 0, .int .i64 (used : Int)] 31)))
  have G5 := Lib.hid (G4.out.trans (hE.alloc (.cells #[.slice va outs.length vc, .int .i64 st, .int .i64 code, .int .i64 0, .int .i64 (used : Int)] 31)))
  clear hE G4
  go_wp2_with fail
  refine (HDT.out _ G5.out).mono ?_
  rintro e w6 ⟨v1, v2, rfl, hE, hr1, hr2⟩
  obtain ⟨a1, c1, rfl⟩ := own_form hr1
  obtain ⟨a2, c2, rfl⟩ := own_form hr2
  have HR2 := Lib.hid hr2
  have K6 := Lib.hid (K5.out.trans hE)
  clear hr1 hr2
  have G6 := Lib.hid (G5.out.trans hE)
  clear hE G5
  go_wp2_with fail
  refine (HEF.out _ G6.out).mono ?_
  rintro e w7 ⟨fa, fn, fc, y1, y2, y4, fl, fcode, rfl, hE, hbad2⟩
  have K7 := Lib.hid (K6.out.trans (hE.alloc (.cells #[.slice fa fn fc, .int .i64 y1, .int .i64 y2, .int .i64 0, .int .i64 y4] 31)))
  have K67 := Lib.hid (hE.alloc (.cells #[.slice fa fn fc, .int .i64 y1, .int .i64 y2, .int .i64 0, .int .i64 y4] 31))
  have G7 := Lib.hid (G6.out.trans (hE.alloc (.cells #[.slice fa fn fc, .int .i64 y1, .int .i64 y2, .int .i64 0, .int .i64 y4] 31)))
  clear hE G6 HLV HCP HLS HFM HE0 HDT HEF
  clear hbad2
  go_wp2_with fail
  refine (HAS.out _ G7.out).mono ?_
  rintro e w8 ⟨v, rfl, hE, hrow⟩
  obtain ⟨ga, ca, rfl⟩ := own_slc hrow hcl5
  have G8 := Lib.hid (G7.out.trans hE)
  have hrowc : w8.ownsRow _ 41 1 (.slice (some ⟨gc, 0, none⟩) u.code.length cc) u.code.length (u.code.map fun i => wordV i.word) := own_keep HROW.out (fun q hq => (K7.out.trans hE).block q (own_block HROW.out hq).2) (Nat.le_refl _)
  have hxl : (u.code.map Ins.word).length = u.code.length := by simp
  have hcells : ∀ (base g c : Nat), w8.ownsRow base 41 1 (.slice (some ⟨g, 0, none⟩) u.code.length c) u.code.length (u.code.map fun i => wordV i.word) → g < w8.heap.size ∧ ∀ k, k < (u.code.map Ins.word).length → w8.cell? ⟨g, k, none⟩ = some (wordV ((u.code.map Ins.word).getD k 0)) := fun base g c h => by
    refine ⟨(own_block h (g := g) rfl).2, fun k hk => ?_⟩
    rw [hxl] at hk
    have := World.ownsRow.cellAt h k (by omega)
    rw [this]
    simp [List.getD_eq_getElem?_getD, hk]
  obtain ⟨b1, b2⟩ := hcells _ _ _ hrow
  obtain ⟨b3, b4⟩ := hcells _ _ _ hrowc
  have hsw := sameWords_yes (u.code.map Ins.word) (by omega) ga ca gc cc w8 b1 b3 b2 b4
  rw [hxl] at hsw
  have HSW := Lib.hid hsw
  have K68 := Lib.hid (K67.out.trans hE)
  clear hE hrow hrowc hxl hcells b1 b2 b3 b4 hsw HROW HAS G7 K7 K67
  go_wp2_with fail
  refine HSW.out.mono ?_
  rintro e w9 ⟨rfl, hE⟩
  have G9 := Lib.hid (G8.out.trans hE)
  have hrow2 := own_keep (w' := w9) HR2.out (fun q hq => (K68.out.trans hE).block q (own_block HR2.out hq).2) (Nat.le_refl _)
  have HROW2 := Lib.hid hrow2
  clear hE hrow2 HSW HR2 K68 G8
  go_wp2_with fail
  go_loopw [28] (fun i wr => ∃ k : Nat, k ≤ u.ds.length ∧ i = .int .i64 k ∧ Hid (Ext w9 wr)) (fun i _ => u.ds.length - (intOf i).toNat)
  case atStart => exact ⟨0, by omega, rfl, Lib.hid (Ext.refl _)⟩
  case round =>
    obtain ⟨k, hk, rfl, HX⟩ := hrel
    by_cases hlt : k < u.ds.length
    · obtain ⟨h1, h2, h3, h4⟩ := HATS.out k hlt
      obtain ⟨g2, cp2, hv2⟩ := own_slc HROW2.out (by omega)
      injection hv2 with hv2 hvn hvc
      clear hvn
      subst hv2 hvc
      have hgb := (own_block HROW2.out (g := g2) rfl).2
      have hal : (atsF u.ds 384).length = u.ds.length := atsF_len _ _
      have hcell : ∀ j, j < u.ds.length → wr.cell? ⟨g2, j, none⟩ = some (.int .i64 (((atsF u.ds 384).getD j 0 : Nat) : Int)) := fun j hj => by
        rw [HX.out.cell g2 j hgb, World.ownsRow.cellAt HROW2.out j (by omega)]
        simp [natV, List.getD_eq_getElem?_getD, hal, hj]
      have e0 := hcell k hlt
      rcases Nat.eq_zero_or_pos k with rfl | hkp
      · have h3' := h3 rfl
        rw [h3'] at e0
        have e0' : wr.cell? ⟨g2, 0, none⟩ = some (.int .i64 384) := e0
        clear h1 h2 h3 h4 h3' hcell hal e0
        go_wp2_with fail
        go_quiet (fail)
        go_wp2_with fail
        all_goals exact ⟨⟨1, by omega, by go_num, Lib.hid (HX.out.drewN _)⟩, by simp [intOf]; omega⟩
      · have h4' := h4 hkp
        have e1 := hcell (k - 1) (by omega)
        generalize (atsF u.ds 384).getD k 0 = x at *
        generalize (atsF u.ds 384).getD (k - 1) 0 = y at *
        have t1 : decide ((x : Int) < 384) = false := by simp; omega
        have t2 : decide ((x : Int) > 479) = false := by simp; omega
        have t3 : decide (479 < (x : Int)) = false := by simp; omega
        have t4 : ((k : Int) == 0) = false := by simp; omega
        have t5 : decide ((k : Int) > 0) = true := by simp; omega
        have t6 : decide (0 < (k : Int)) = true := by simp; omega
        have t7 : IntKind.i64.wrap ((k : Int) - 1) = ((k - 1 : Nat) : Int) := by rw [show ((k : Int) - 1) = ((k - 1 : Nat) : Int) by omega]; exact IntWalk.i64_in _ (by omega)
        have t8 : decide ((x : Int) ≤ (y : Int)) = false := by simp; omega
        clear h3 h4 hcell hal
        go_wp2_with fail
        go_quiet (fail)
        go_wp2_with fail
        all_goals exact ⟨⟨k + 1, by omega, by go_num, Lib.hid (HX.out.drewN _)⟩, by simp [intOf]; omega⟩
    · obtain rfl : k = u.ds.length := by omega
      go_wp2_with fail
      go_ret
      exact ⟨rfl, G9.out.trans HX.out⟩

theorem law_any {N : Nat} (s : ByteArray) (hs : s.size ≤ maxLen) (fuel : Int) (w : World) (henv : Env N w) : Calls Tryz.prog 3 #[.string s, .int .i64 fuel] w fun e w' => e = .returned (.bool true) ∧ Ext w w' := by
  cases hR : takenF s with
  | error q =>
    obtain ⟨ln, code⟩ := q
    by_cases h0 : fuel < 0
    · exact law_err0 s hs fuel h0 ln code hR w henv
    · by_cases h1 : 65536 < fuel
      · exact law_err1 s hs fuel ⟨h0, h1⟩ ln code hR w henv
      · exact law_err2 s hs fuel ⟨h0, h1⟩ ln code hR w henv
  | ok u =>
    by_cases h0 : fuel < 0
    · exact law_ok0 s hs fuel h0 u hR w henv
    · by_cases h1 : 65536 < fuel
      · exact law_ok1 s hs fuel ⟨h0, h1⟩ u hR w henv
      · exact law_ok2 s hs fuel ⟨h0, h1⟩ u hR w henv
end Go.Proofs.YtgjgaeloehfhiaaGreatDoor
