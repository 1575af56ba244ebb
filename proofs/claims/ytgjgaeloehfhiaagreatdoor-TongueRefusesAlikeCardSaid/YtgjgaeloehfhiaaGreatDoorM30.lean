/- The generator: loops. -/
import Derived.Test.YtgjgaeloehfhiaaGreatDoorM29
namespace Go.Proofs.YtgjgaeloehfhiaaGreatDoor
open Go.RowKit

set_option maxRecDepth 100000 in
set_option maxHeartbeats 4000000 in
theorem loop_any {base mb ub N lo hi : Nat} {L : Places} {bs : List Nat} {S : GSt} (loops eb bb : Nat) (e lb : Ast) (ve vlb : Value) (w : World) (hE : ExpC base mb ub N L e) (hB : ListG base mb ub N L lb) (heb : eb < base) (hbb : bb < base)
    (c5 : w.cell? ⟨eb, 5, none⟩ = some ve) (c7 : w.cell? ⟨eb, 7, none⟩ = some (.pointer (some ⟨bb, 0, none⟩))) (cb : w.cell? ⟨bb, 1, none⟩ = some vlb) (hoe : e.okE) (hokb : lb.okS) (hlb : lb.isL) (hcb : chkF L lb (loops + 1) = none)
    (hae : AstAt w lo hi e ve) (hab : AstAt w lo hi lb vlb)
    (hhi : hi ≤ base) (henv : GEnv w base ub N L) (h : MkAt w base mb ub bs S) (hw : S.wf) (hlen : S.out.length + 8 * e.sz + 8 * lb.sz + 8 ≤ 100000000) (hsz : e.sz + lb.sz ≤ 1000000) :
    Calls Tryz.prog 143 #[.pointer (some ⟨mb, 0, none⟩), .pointer (some ⟨eb, 0, none⟩)] w (GenC w base mb ub bs (loopF (genE L e 0) (genS L lb) S)) := by
  obtain ⟨a1, a2, a3⟩ := new2_at (a := w.heap.size) (b := w.heap.size + 1) h.len
  have HNA := Lib.hid a1
  have HNB := Lib.hid a2
  have HNL := Lib.hid a3
  have hnl : S.newLab.newLab.labs.length = S.labs.length + 2 := by rw [newLab_len, newLab_len]
  have HN0 : Hid (S.labs.length < S.newLab.newLab.labs.length) := by show _ < _; omega
  have HN1 : Hid (S.labs.length + 1 < S.newLab.newLab.labs.length) := by show _ < _; omega
  have HENV := Lib.hid henv
  have HAE := Lib.hid hae
  have HAB := Lib.hid hab
  have HE := Lib.hid hE
  have HBL := Lib.hid hB
  have HOE := Lib.hid hoe
  have HOB := Lib.hid hokb
  have HLB := Lib.hid hlb
  have HCB := Lib.hid hcb
  have HC5 := Lib.hid c5
  have HC7 := Lib.hid c7
  have HCBB := Lib.hid cb
  have hlen2 : S.newLab.newLab.out.length + 8 * e.sz + 8 * lb.sz + 8 ≤ 100000000 := hlen
  have hmb := h.size
  have hm2 := h.new2 hw henv.hb
  have hset := hm2.setLoop (some S.labs.length) (some (S.labs.length + 1))
  have p0 : labPtr (bs ++ [w.heap.size, w.heap.size + 1]) (some S.labs.length) = .pointer (some ⟨w.heap.size, 0, none⟩) := by simp only [labPtr, a1]
  have p1 : labPtr (bs ++ [w.heap.size, w.heap.size + 1]) (some (S.labs.length + 1)) = .pointer (some ⟨w.heap.size + 1, 0, none⟩) := by simp only [labPtr, a2]
  rw [p0, p1] at hset
  have hcomm : (((w.alloc (.cells #[.int .i64 0, .slice none 0 0] 157)).alloc (.cells #[.int .i64 0, .slice none 0 0] 157)).setCell ⟨mb, 3, none⟩ (.pointer (some ⟨w.heap.size, 0, none⟩))).setCell ⟨mb, 4, none⟩ (.pointer (some ⟨w.heap.size + 1, 0, none⟩)) =
      (((w.setCell ⟨mb, 3, none⟩ (.pointer (some ⟨w.heap.size, 0, none⟩))).setCell ⟨mb, 4, none⟩ (.pointer (some ⟨w.heap.size + 1, 0, none⟩))).alloc (.cells #[.int .i64 0, .slice none 0 0] 157)).alloc (.cells #[.int .i64 0, .slice none 0 0] 157) := by
    have hm := hmb.2
    rw [World.setCell_alloc_past _ _ _ _ (by rw [szA]; omega), World.setCell_alloc_past _ _ _ _ hm, World.setCell_alloc_past _ _ _ _ (by rw [szA, szS]; omega), World.setCell_alloc_past _ _ _ _ (by rw [szS]; exact hm)]
  rw [hcomm] at hset
  clear hcomm
  have HM0 := Lib.hid (hset.1.ext ((Ext.refl _).drew))
  have HFX := Lib.hid ((GFr.of_ext (((Ext.refl w).alloc (.cells #[.int .i64 0, .slice none 0 0] 157)).alloc (.cells #[.int .i64 0, .slice none 0 0] 157)) henv.hb).trans (hset.2.trans (GFr.of_ext ((Ext.refl _).drew) (by simp only [szA, szS]; have := henv.hb; omega))))
  have HG0 := Lib.hid (GLe.refl (wf_loop hw))
  have HPX := Lib.hid (List.prefix_append bs [w.heap.size, w.heap.size + 1])
  obtain ⟨oh, hoh⟩ := labPtr_form bs S.head
  obtain ⟨ot, hot⟩ := labPtr_form bs S.tail
  obtain ⟨-, -, k3, k4, f3, f4⟩ := h.cells
  rw [hoh] at k3
  rw [hot] at k4
  have HOH := Lib.hid hoh
  have HOT := Lib.hid hot
  have HLS := Lib.hid (show (∀ i, S.head = some i → i < bs.length) ∧ (∀ i, S.tail = some i → i < bs.length) from ⟨fun i hi => by rw [h.len]; exact hw.head i hi, fun i hi => by rw [h.len]; exact hw.tail i hi⟩)
  have hS0 : ∀ w', Ext w w' → w'.cell? ⟨mb, 3, none⟩ = some (.pointer oh) ∧ w'.cell? ⟨mb, 4, none⟩ = some (.pointer ot) ∧ w'.frozen? ⟨mb, 3, none⟩ = false ∧ w'.frozen? ⟨mb, 4, none⟩ = false := fun w' hE => ⟨(hE.cell _ _ hmb.2).trans k3, (hE.cell _ _ hmb.2).trans k4, (hE.frozen _ _ hmb.2).trans f3, (hE.frozen _ _ hmb.2).trans f4⟩
  have hS1 := hS0 _ (Ext.refl w).drew
  clear p0 p1 hset hm2 a1 a2 a3 henv hae hab hE hB hoe hokb hlb hcb c5 c7 cb h hlen hnl hoh hot hS0
  obtain ⟨bs0, hbs0⟩ : ∃ b, b = bs ++ [w.heap.size, w.heap.size + 1] := ⟨_, rfl⟩
  rw [← hbs0] at HM0 HNA HNB HNL HPX
  have HB0 := Lib.hid (List.prefix_refl bs0)
  have HL0 : Hid (S.labs.length < bs0.length) := by show _ < _; have := HNL.out; omega
  have HL1 : Hid (S.labs.length + 1 < bs0.length) := by show _ < _; have := HNL.out; omega
  clear hbs0
  have hres : loopF (genE L e 0) (genS L lb) S = { ((((genS L lb ((genE L e 0 (({ S.newLab.newLab with head := some S.labs.length, tail := some (S.labs.length + 1) } : GSt).land S.labs.length)).jump 22 4 (S.labs.length + 1))).jump 21 0 S.labs.length).land (S.labs.length + 1)).settle S.labs.length).settle (S.labs.length + 1) with head := S.head, tail := S.tail } := rfl
  have HRES := Lib.hid hres
  have HN0 : Hid (S.labs.length < ({ S.newLab.newLab with head := some S.labs.length, tail := some (S.labs.length + 1) } : GSt).labs.length) := HN0.out
  have HN1 : Hid (S.labs.length + 1 < ({ S.newLab.newLab with head := some S.labs.length, tail := some (S.labs.length + 1) } : GSt).labs.length) := HN1.out
  have hlen2 : ({ S.newLab.newLab with head := some S.labs.length, tail := some (S.labs.length + 1) } : GSt).out.length + 8 * e.sz + 8 * lb.sz + 8 ≤ 100000000 := hlen2
  have HSH : Hid (({ S.newLab.newLab with head := some S.labs.length, tail := some (S.labs.length + 1) } : GSt).head = some S.labs.length) := rfl
  have HST : Hid (({ S.newLab.newLab with head := some S.labs.length, tail := some (S.labs.length + 1) } : GSt).tail = some (S.labs.length + 1)) := rfl
  obtain ⟨S2, hS2⟩ : ∃ x : GSt, x = { S.newLab.newLab with head := some S.labs.length, tail := some (S.labs.length + 1) } := ⟨_, rfl⟩
  obtain ⟨n, hn⟩ : ∃ x, x = S.labs.length := ⟨_, rfl⟩
  rw [← hS2] at HM0 HG0 hlen2 HN0 HN1 HSH HST HRES
  rw [← hn] at HNA HNB HN0 HN1 HL0 HL1 HSH HST HRES
  generalize loopF (genE L e 0) (genS L lb) S = RES at *
  clear hS2 hn hres
  go_enter Tryz.func143, Tryz.ntmps143
  go_wp2_with fail
  refine wp_region_plan (fun w' => w'.cell? ⟨mb, 3, none⟩ = some (.pointer oh) ∧ w'.cell? ⟨mb, 4, none⟩ = some (.pointer ot) ∧ w'.frozen? ⟨mb, 3, none⟩ = false ∧ w'.frozen? ⟨mb, 4, none⟩ = false)
    [(0, true), (1, true), (2, true), (3, true), (4, true), (5, true), (6, true), (7, true), (8, true), (9, true)] true (by kernel_rfl) (by kernel_rfl) (fun c a d v w h => by cases d <;> exact h) hS1 ?_
  iterate 10 (refine ⟨_, ?_, rfl, Or.inl ⟨by rfl, ?_⟩, ?_⟩; rotate_left; (· intro w' hSw; (try dsimp only at hSw); go_simp; (try with_reducible rfl)); simp only [Act.put, List.setIfInBounds_toArray, List.set_cons_zero, List.set_cons_succ, List.getElem_toArray, List.getElem_cons_zero, List.getElem_cons_succ])
  refine ⟨rfl, ?_⟩
  clear hS1
  have hmb2 := hmb.2
  have hne1 : mb ≠ w.heap.size := by omega
  have hne2 : mb ≠ w.heap.size + 1 := by omega
  go_wp2_with fail
  clear k3 k4 f3 f4 hmb2 hne1 hne2
  have HENV := Lib.hid (HENV.out.keep HFX.out.below)
  have HAE := Lib.hid (ast_below HFX.out.below hhi HAE.out)
  have HAB := Lib.hid (ast_below HFX.out.below hhi HAB.out)
  have HC5 := Lib.hid ((HFX.out.below.cell (p := ⟨eb, 5, none⟩) heb).trans HC5.out)
  have HC7 := Lib.hid ((HFX.out.below.cell (p := ⟨eb, 7, none⟩) heb).trans HC7.out)
  have HCBB := Lib.hid ((HFX.out.below.cell (p := ⟨bb, 1, none⟩) hbb).trans HCBB.out)
  generalize hW : (World.drew _) = W0 at *
  have HF0 := Lib.hid (GFr.refl base W0)
  clear hW
  generalize w.heap.size = na at HNA HNB
  have hc0 := (HM0.out.headCell HB0.out (HG0.out.head.trans HSH.out) HL0.out HNA.out).1
  go_wp2_with fail
  refine (land_p n _ _ ((pre_getD HB0.out HL0.out).trans HNA.out) HM0.out (Nat.lt_of_lt_of_le HN0.out HG0.out.labs) (by have := HG0.out.hi; omega)).mono ?_
  rintro e w1 ⟨rfl, h1, h2⟩
  have HM1 := Lib.hid h1
  have HF1 := Lib.hid (HF0.out.trans h2)
  have HG1 := Lib.hid (HG0.out.trans (gle_land HG0.out.wf n))
  clear h1 h2
  clear hc0
  have k5_1 : w1.cell? ⟨eb, 5, none⟩ = some (ve) := (HF1.out.below.cell (p := ⟨eb, 5, none⟩) heb).trans HC5.out
  go_wp2_with fail
  refine (HE.out 0 ve _ bs0 _ lo hi HOE.out (ast_below HF1.out.below hhi HAE.out) hhi (HENV.out.keep HF1.out.below) HM1.out HG1.out.wf (by have := HG1.out.hi; omega) (by omega)).mono ?_
  rintro e w2 ⟨rfl, bs1, hpx, h1, h2⟩
  have HB1 := Lib.hid (HB0.out.trans hpx)
  clear hpx
  have HM2 := Lib.hid h1
  have HF2 := Lib.hid (HF1.out.trans h2)
  have HG2 := Lib.hid (HG1.out.trans (gle_genE L e 0 _ HG1.out.wf))
  clear h1 h2
  clear k5_1
  have tc2 := (HM2.out.tailCell HB1.out (HG2.out.tail.trans HST.out) HL1.out HNB.out).1
  go_wp2_with fail
  refine (jump_p 22 4 (n + 1) _ _ ((pre_getD HB1.out HL1.out).trans HNB.out) HM2.out (Nat.lt_of_lt_of_le HN1.out HG2.out.labs) HG2.out.wf (by have := HG2.out.hi; omega)).mono ?_
  rintro e w3 ⟨rfl, h1, h2⟩
  have HM3 := Lib.hid h1
  have HF3 := Lib.hid (HF2.out.trans h2)
  have HG3 := Lib.hid (HG2.out.trans (gle_jump HG2.out.wf 22 4 (n + 1)))
  clear h1 h2
  clear tc2
  have k7_3 : w3.cell? ⟨eb, 7, none⟩ = some (.pointer (some ⟨bb, 0, none⟩)) := (HF3.out.below.cell (p := ⟨eb, 7, none⟩) heb).trans HC7.out
  have kb_3 : w3.cell? ⟨bb, 1, none⟩ = some (vlb) := (HF3.out.below.cell (p := ⟨bb, 1, none⟩) hbb).trans HCBB.out
  go_wp2_with fail
  refine (HBL.out (loops + 1) vlb _ bs1 _ lo hi HOB.out HLB.out HCB.out (fun _ => by rw [HG3.out.head, HG3.out.tail, HSH.out, HST.out]; exact ⟨rfl, rfl⟩) (ast_below HF3.out.below hhi HAB.out) hhi (HENV.out.keep HF3.out.below) HM3.out HG3.out.wf (by have := HG3.out.hi; omega) (by omega)).mono ?_
  rintro e w4 ⟨rfl, bs2, hpx, h1, h2⟩
  have HB2 := Lib.hid (HB1.out.trans hpx)
  clear hpx
  have HM4 := Lib.hid h1
  have HF4 := Lib.hid (HF3.out.trans h2)
  have HG4 := Lib.hid (HG3.out.trans (gle_genS L lb _ HG3.out.wf))
  clear h1 h2
  clear k7_3 kb_3
  have hc4 := (HM4.out.headCell HB2.out (HG4.out.head.trans HSH.out) HL0.out HNA.out).1
  go_wp2_with fail
  refine (jump_p 21 0 n _ _ ((pre_getD HB2.out HL0.out).trans HNA.out) HM4.out (Nat.lt_of_lt_of_le HN0.out HG4.out.labs) HG4.out.wf (by have := HG4.out.hi; omega)).mono ?_
  rintro e w5 ⟨rfl, h1, h2⟩
  have HM5 := Lib.hid h1
  have HF5 := Lib.hid (HF4.out.trans h2)
  have HG5 := Lib.hid (HG4.out.trans (gle_jump HG4.out.wf 21 0 n))
  clear h1 h2
  clear hc4
  have tc5 := (HM5.out.tailCell HB2.out (HG5.out.tail.trans HST.out) HL1.out HNB.out).1
  go_wp2_with fail
  refine (land_p (n + 1) _ _ ((pre_getD HB2.out HL1.out).trans HNB.out) HM5.out (Nat.lt_of_lt_of_le HN1.out HG5.out.labs) (by have := HG5.out.hi; omega)).mono ?_
  rintro e w6 ⟨rfl, h1, h2⟩
  have HM6 := Lib.hid h1
  have HF6 := Lib.hid (HF5.out.trans h2)
  have HG6 := Lib.hid (HG5.out.trans (gle_land HG5.out.wf (n + 1)))
  clear h1 h2
  clear tc5
  have hc6 := (HM6.out.headCell HB2.out (HG6.out.head.trans HSH.out) HL0.out HNA.out).1
  go_wp2_with fail
  refine (settle_p n _ _ ((pre_getD HB2.out HL0.out).trans HNA.out) HM6.out (Nat.lt_of_lt_of_le HN0.out HG6.out.labs) HG6.out.wf (by have := HG6.out.hi; omega)).mono ?_
  rintro e w7 ⟨rfl, h1, h2⟩
  have HM7 := Lib.hid h1
  have HF7 := Lib.hid (HF6.out.trans h2)
  have HG7 := Lib.hid (HG6.out.trans (gle_settle HG6.out.wf n))
  clear h1 h2
  clear hc6
  have tc7 := (HM7.out.tailCell HB2.out (HG7.out.tail.trans HST.out) HL1.out HNB.out).1
  go_wp2_with fail
  refine (settle_p (n + 1) _ _ ((pre_getD HB2.out HL1.out).trans HNB.out) HM7.out (Nat.lt_of_lt_of_le HN1.out HG7.out.labs) HG7.out.wf (by have := HG7.out.hi; omega)).mono ?_
  rintro e w8 ⟨rfl, h1, h2⟩
  have HM8 := Lib.hid h1
  have HF8 := Lib.hid (HF7.out.trans h2)
  have HG8 := Lib.hid (HG7.out.trans (gle_settle HG7.out.wf (n + 1)))
  clear h1 h2
  clear tc7
  obtain ⟨-, -, y3, y4, z3, z4⟩ := HM8.out.cells
  obtain ⟨q3, hq3⟩ := labPtr_form bs2 (((((genS L lb ((genE L e 0 (S2.land n)).jump 22 4 (n + 1))).jump 21 0 n).land (n + 1)).settle n).settle (n + 1)).head
  obtain ⟨q4, hq4⟩ := labPtr_form bs2 (((((genS L lb ((genE L e 0 (S2.land n)).jump 22 4 (n + 1))).jump 21 0 n).land (n + 1)).settle n).settle (n + 1)).tail
  rw [hq3] at y3
  rw [hq4] at y4
  clear hq3 hq4
  have hset := HM8.out.setLoop S.head S.tail
  have hpp := HPX.out.trans HB2.out
  rw [labPtr_pre hpp HLS.out.1, labPtr_pre hpp HLS.out.2, HOH.out, HOT.out] at hset
  have HSET := Lib.hid hset
  have HPP := Lib.hid hpp
  clear hset hpp
  go_wp2_with fail
  go_end0
  rw [HRES.out]
  exact ⟨rfl, _, HPP.out, HSET.out.1, HFX.out.trans (HF8.out.trans HSET.out.2)⟩
end Go.Proofs.YtgjgaeloehfhiaaGreatDoor
