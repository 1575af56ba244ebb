/- The generator: operators of two sides. -/
import Derived.Test.YtgjgaeloehfhiaaGreatDoorM26
namespace Go.Proofs.YtgjgaeloehfhiaaGreatDoor
open Go.RowKit

set_option maxRecDepth 100000 in
set_option maxHeartbeats 4000000 in
theorem pair_short {base mb ub N lo hi : Nat} {L : Places} {bs : List Nat} {S : GSt} (l r : Ast) (hl : ExpC base mb ub N L l) (hr : ExpC base mb ub N L r) (eb d : Nat) (text : ByteArray) (vl vr : Value) (w : World) (heb : eb < base)
    (c2 : w.cell? ⟨eb, 2, none⟩ = some (.string text)) (c6 : w.cell? ⟨eb, 6, none⟩ = some vl) (c7 : w.cell? ⟨eb, 7, none⟩ = some vr) (hol : l.okE) (hor : r.okE) (hal : AstAt w lo hi l vl) (har : AstAt w lo hi r vr) (hhi : hi ≤ base) (henv : GEnv w base ub N L) (h : MkAt w base mb ub bs S) (hw : S.wf)
    (hlen : S.out.length + 8 * l.sz + 8 * r.sz + 8 ≤ 100000000) (hd : d + l.sz + r.sz + 1 ≤ 1000000) :
    (text.toList = [38, 38] → Calls Tryz.prog 166 #[.pointer (some ⟨mb, 0, none⟩), .pointer (some ⟨eb, 0, none⟩), .int .i64 d] w (GenC w base mb ub bs (shortF (genE L l d) (genE L r d) 22 1 S))) ∧
    (text.toList = [124, 124] → Calls Tryz.prog 166 #[.pointer (some ⟨mb, 0, none⟩), .pointer (some ⟨eb, 0, none⟩), .int .i64 d] w (GenC w base mb ub bs (shortF (genE L l d) (genE L r d) 23 0 S))) := by
  have hs := fun op v h0 h1 => short_any l r hl hr eb d op v h0 h1 vl vr w heb c6 c7 hol hor hal har hhi henv h hw (by omega) (by omega)
  refine ⟨fun ht => ?_, fun ht => ?_⟩
  · have h1 := hs 22 1 (by omega) (by omega)
    have q1 : (text.toList == [38, 38]) = true := by simpa using ht
    have HS := Lib.hid h1
    clear hs h1 hl hr c6 c7 hal har henv h hw ht
    go_enter Tryz.func166, Tryz.ntmps166
    go_wp2_with fail
    refine HS.out.mono ?_
    rintro e w1 hp
    obtain ⟨rfl, hp2⟩ := hp
    have HP := Lib.hid hp2
    clear hp2
    go_wp2_with fail
    go_end0
    exact ⟨rfl, HP.out⟩
  · have h1 := hs 23 0 (by omega) (by omega)
    have q1 : (text.toList == [38, 38]) = false := by rw [ht]; rfl
    have q2 : (text.toList == [124, 124]) = true := by simpa using ht
    have HS := Lib.hid h1
    clear hs h1 hl hr c6 c7 hal har henv h hw ht
    go_enter Tryz.func166, Tryz.ntmps166
    go_wp2_with fail
    refine HS.out.mono ?_
    rintro e w1 hp
    obtain ⟨rfl, hp2⟩ := hp
    have HP := Lib.hid hp2
    clear hp2
    go_wp2_with fail
    go_end0
    exact ⟨rfl, HP.out⟩

set_option maxRecDepth 100000 in
set_option maxHeartbeats 4000000 in
theorem pair_plain {base mb ub N lo hi : Nat} {L : Places} {bs : List Nat} {S : GSt} (l r : Ast) (hl : ExpC base mb ub N L l) (hr : ExpC base mb ub N L r) (eb d : Nat) (text : ByteArray) (vl vr : Value) (w : World) (heb : eb < base)
    (c2 : w.cell? ⟨eb, 2, none⟩ = some (.string text)) (c6 : w.cell? ⟨eb, 6, none⟩ = some vl) (c7 : w.cell? ⟨eb, 7, none⟩ = some vr) (hol : l.okE) (hor : r.okE) (hal : AstAt w lo hi l vl) (har : AstAt w lo hi r vr) (hhi : hi ≤ base) (henv : GEnv w base ub N L) (h : MkAt w base mb ub bs S) (hw : S.wf)
    (hlen : S.out.length + 8 * l.sz + 8 * r.sz + 8 ≤ 100000000) (hd : d + l.sz + r.sz + 1 ≤ 1000000) (hts : text.size ≤ maxLen) (ht1 : text.toList ≠ [38, 38]) (ht2 : text.toList ≠ [124, 124]) :
    Calls Tryz.prog 166 #[.pointer (some ⟨mb, 0, none⟩), .pointer (some ⟨eb, 0, none⟩), .int .i64 d] w (GenC w base mb ub bs (pairF (genE L l d) (genE L r (d + 1)) d text.data.toList S)) := by
  have q1 : (text.toList == [38, 38]) = false := by simpa using ht1
  have q2 : (text.toList == [124, 124]) = false := by simpa using ht2
  obtain ⟨cm, sv, hlook⟩ := henv.comb.look text hts
  have HLOOK := Lib.hid hlook
  have hNb := henv.hN
  have HENV := Lib.hid henv
  have HAL := Lib.hid hal
  have HAR := Lib.hid har
  have HEL := Lib.hid hl
  have HER := Lib.hid hr
  have HOL := Lib.hid hol
  have HOR := Lib.hid hor
  have HC2 := Lib.hid c2
  have HC6 := Lib.hid c6
  have HC7 := Lib.hid c7
  have hr0 : pairF (genE L l d) (genE L r (d + 1)) d text.data.toList S = stepsF (combF text.data.toList) (((genE L r (d + 1) ((genE L l d S).put 20 4 7 (480 + d))).put 4 5 4 0).put 19 4 7 (480 + d)) := rfl
  have HRES := Lib.hid hr0
  have hcl := combF_len text.data.toList
  generalize pairF (genE L l d) (genE L r (d + 1)) d text.data.toList S = RES at *
  generalize combF text.data.toList = steps at *
  clear henv hal har hl hr hol hor c6 c7 hlook hr0 ht1 ht2
  have HM0 := Lib.hid h
  have HF0 := Lib.hid (GFr.refl base w)
  have HG0 := Lib.hid (GLe.refl hw)
  have HB0 := Lib.hid (List.prefix_refl bs)
  have HL0 := Lib.hid h.len
  clear h
  clear c2
  have k2 := HC2.out
  go_enter Tryz.func166, Tryz.ntmps166
  have k6 := HC6.out
  go_wp2_with fail
  clear k6 k2
  refine (HEL.out d vl _ bs _ lo hi HOL.out (ast_below HF0.out.below hhi HAL.out) hhi (HENV.out.keep HF0.out.below) HM0.out HG0.out.wf (by have := HG0.out.hi; omega) (by omega)).mono ?_
  rintro e w1 ⟨rfl, bs1, hpx, h1, h2⟩
  have HB1 := Lib.hid (HB0.out.trans hpx)
  clear hpx
  have HM1 := Lib.hid h1
  have HF1 := Lib.hid (HF0.out.trans h2)
  have HG1 := Lib.hid (HG0.out.trans (gle_genE L l d _ HG0.out.wf))
  clear h1 h2
  go_wp2_with fail
  refine (put_any 20 4 7 (480 + d) _ HM1.out (by have := HG1.out.hi; omega)).mono ?_
  rintro e w2 ⟨rfl, h1, h2⟩
  have HM2 := Lib.hid h1
  have HF2 := Lib.hid (HF1.out.trans h2)
  have HG2 := Lib.hid (HG1.out.trans (gle_put HG1.out.wf 20 4 7 (480 + d)))
  clear h1 h2
  have k7_2 : w2.cell? ⟨eb, 7, none⟩ = some (vr) := (HF2.out.below.cell (p := ⟨eb, 7, none⟩) heb).trans HC7.out
  go_wp2_with fail
  refine (HER.out (d + 1) vr _ bs1 _ lo hi HOR.out (ast_below HF2.out.below hhi HAR.out) hhi (HENV.out.keep HF2.out.below) HM2.out HG2.out.wf (by have := HG2.out.hi; omega) (by omega)).mono ?_
  rintro e w3 ⟨rfl, bs2, hpx, h1, h2⟩
  have HB2 := Lib.hid (HB1.out.trans hpx)
  clear hpx
  have HM3 := Lib.hid h1
  have HF3 := Lib.hid (HF2.out.trans h2)
  have HG3 := Lib.hid (HG2.out.trans (gle_genE L r (d + 1) _ HG2.out.wf))
  clear h1 h2
  clear k7_2
  go_wp2_with fail
  refine (put_any 4 5 4 0 _ HM3.out (by have := HG3.out.hi; omega)).mono ?_
  rintro e w4 ⟨rfl, h1, h2⟩
  have HM4 := Lib.hid h1
  have HF4 := Lib.hid (HF3.out.trans h2)
  have HG4 := Lib.hid (HG3.out.trans (gle_put HG3.out.wf 4 5 4 0))
  clear h1 h2
  go_wp2_with fail
  refine (put_any 19 4 7 (480 + d) _ HM4.out (by have := HG4.out.hi; omega)).mono ?_
  rintro e w5 ⟨rfl, h1, h2⟩
  have HM5 := Lib.hid h1
  have HF5 := Lib.hid (HF4.out.trans h2)
  have HG5 := Lib.hid (HG4.out.trans (gle_put HG4.out.wf 19 4 7 (480 + d)))
  clear h1 h2
  have hS0 : ∀ w', Ext w5 w' → w'.cell? ⟨9, 0, none⟩ = some (.map (some cm)) ∧ (Instr.lookup 259 (.map (some cm)) (.string text) false).run Tryz.prog w' = .ok sv w' ∧ w'.cell? ⟨eb, 2, none⟩ = some (.string text) := fun w' hE => by
    have hF := HF5.out.trans (GFr.of_ext hE (Nat.le_trans (HENV.out.hb) HF5.out.below.size))
    obtain ⟨a, b, -⟩ := HLOOK.out w' (hF.below.mono hNb)
    exact ⟨a, b, (hF.below.cell (p := ⟨eb, 2, none⟩) heb).trans HC2.out⟩
  obtain ⟨-, -, hst⟩ := HLOOK.out w5 (HF5.out.below.mono hNb)
  obtain ⟨sa, sc, rfl, -⟩ := hst
  have hS1 := hS0 _ ((Ext.refl w5).drew)
  go_wp2_with fail
  refine wp_region_plan (fun w' => w'.cell? ⟨9, 0, none⟩ = some (.map (some cm)) ∧ (Instr.lookup 259 (.map (some cm)) (.string text) false).run Tryz.prog w' = .ok (.slice sa steps.length sc) w' ∧ w'.cell? ⟨eb, 2, none⟩ = some (.string text))
    [(0, true), (1, true), (2, true), (3, true), (4, true), (5, true), (6, true), (7, true), (8, true)] true (by kernel_rfl) (by kernel_rfl) (fun c a d v w h => by cases d <;> exact h) hS1 ?_
  clear hS0 hS1
  iterate 9 (refine ⟨_, ?_, rfl, Or.inl ⟨by rfl, ?_⟩, ?_⟩; rotate_left; (· intro w' hSw; (try dsimp only at hSw); go_simp; (try with_reducible rfl)); simp only [Act.put, List.setIfInBounds_toArray, List.set_cons_zero, List.set_cons_succ, List.getElem_toArray, List.getElem_cons_zero, List.getElem_cons_succ])
  refine ⟨rfl, ?_⟩
  have HREL : Hid (stepsF (steps.drop 0) (((genE L r (d + 1) ((genE L l d S).put 20 4 7 (480 + d))).put 4 5 4 0).put 19 4 7 (480 + d)) = RES) := HRES.out.symm
  have HMD := Lib.hid (HM5.out.ext ((Ext.refl w5).drew))
  have HFD := Lib.hid (HF5.out.trans (GFr.of_ext ((Ext.refl w5).drew) (Nat.le_trans (HENV.out.hb) HF5.out.below.size)))
  go_wp2_with fail
  go_loopw [58] (fun v wr => ∃ (k : Nat) (bx : List Nat) (Sx : GSt), k ≤ steps.length ∧ v = .int .i64 k ∧ Hid (bs <+: bx) ∧ Hid (MkAt wr base mb ub bx Sx) ∧ Hid (GFr base w wr) ∧ Hid (GLe (8 * l.sz + 8 * r.sz + 4 + k) S Sx) ∧ Hid (stepsF (steps.drop k) Sx = RES)) (fun v _ => steps.length - (intOf v).toNat)
  case atStart => exact ⟨0, _, _, by omega, rfl, HB2, HMD, HFD, Lib.hid (HG5.out.mono (by omega)), HREL⟩
  case round =>
    obtain ⟨k, bx, Sx, hk, rfl, HBX, HMX, HFX, HGX, HSX⟩ := hrel
    clear HREL HMD HFD
    have hbx : base ≤ wr.heap.size := Nat.le_trans HENV.out.hb HFX.out.below.size
    by_cases hlt : k < steps.length
    · have hR := HSX.out
      rw [List.drop_eq_getElem_cons hlt] at hR
      obtain ⟨-, -, hst⟩ := HLOOK.out wr (HFX.out.below.mono hNb)
      obtain ⟨sa', sc', hsv, hel⟩ := hst
      obtain ⟨gg, off, hsa, -, x0, x1, x2⟩ := hel k hlt
      have hsa2 : sa = some ⟨gg, off, none⟩ := by
        have : sa = sa' := by injection hsv
        rw [this]; exact hsa
      subst hsa2
      have hgd : steps.getD k default = steps[k] := by simp [List.getD_eq_getElem?_getD, hlt]
      rw [hgd] at x0 x1 x2
      clear hsv hel hgd hsa
      have HX0 := Lib.hid hR
      clear hR
      generalize steps[k] = x at *
      obtain ⟨y0, y1, y2⟩ := x
      simp only at x0 x1 x2
      have hm := HMX.out.ext ((Ext.refl wr).alloc (.cells #[.int .i64 y0, .int .i64 y1, .int .i64 y2] 261))
      have hf := HFX.out.trans (GFr.of_ext ((Ext.refl wr).alloc (.cells #[.int .i64 y0, .int .i64 y1, .int .i64 y2] 261)) hbx)
      have hp := put_any y0 y1 y2 0 _ hm (by have := HGX.out.hi; omega)
      have HP := Lib.hid hp
      have HF := Lib.hid hf
      clear hm hf hp
      go_wp2_with fail
      refine HP.out.mono ?_
      rintro e wz ⟨rfl, h1, h2⟩
      have HM1 := Lib.hid h1
      have HF1 := Lib.hid (HF.out.trans h2)
      have HG1 := Lib.hid (HGX.out.trans (gle_put HGX.out.wf y0 y1 y2 0))
      clear h1 h2
      go_wp2_with fail
      all_goals exact ⟨⟨k + 1, bx, _, by omega, by go_num, HBX, HM1, HF1, Lib.hid (HG1.out.mono (by omega)), HX0⟩, by simp [intOf]; omega⟩
    · have hR := HSX.out
      rw [List.drop_eq_nil_of_le (by omega)] at hR
      have hRS : Sx = RES := hR
      subst hRS
      clear hR HSX
      go_wp2_with fail
      go_end0
      exact ⟨rfl, _, HBX.out, HMX.out, HFX.out⟩

end Go.Proofs.YtgjgaeloehfhiaaGreatDoor
