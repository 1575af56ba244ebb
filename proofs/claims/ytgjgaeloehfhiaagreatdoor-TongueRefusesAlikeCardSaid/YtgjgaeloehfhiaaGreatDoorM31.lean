/- The generator: statements. -/
import Derived.Test.YtgjgaeloehfhiaaGreatDoorM30
namespace Go.Proofs.YtgjgaeloehfhiaaGreatDoor
open Go.RowKit

set_option maxRecDepth 100000 in
set_option maxHeartbeats 4000000 in
theorem stm0 {base mb ub N lo hi : Nat} {L : Places} {bs : List Nat} {S : GSt} (t : Tok) (sb : Nat) (w : World) (hft : t.fit) (hsb : sb < base) (hhi : hi ≤ base) (henv : GEnv w base ub N L) (h : MkAt w base mb ub bs S) (hw : S.wf) (e : Ast) (ve : Value) (hE1 : ExpC base mb ub N L e) (hoe1 : e.okE) (hae1 : AstAt w lo hi e ve) (hcell : w.heap[sb]? = some (.cells #[.int .i64 (0 : Nat), .int .i64 t.kind, .string t.text, .int .i64 t.line, .int .u32 t.num, ve, .pointer none, .pointer none, .pointer none, .bool false] 150 (0, 0))) (hlen : S.out.length + 8 * e.sz + 8 ≤ 100000000) (hsz : e.sz ≤ 1000000) :
    Calls Tryz.prog 103 #[.pointer (some ⟨mb, 0, none⟩), .pointer (some ⟨sb, 0, none⟩)] w (GenC w base mb ub bs (genS L (.stm 0 t e .nil .nil .nil false) S)) := by
  have hspec : genS L (.stm 0 t e .nil .nil .nil false) S = (genE L e 0 S).put 20 4 7 (placeOf L t).1 := rfl
  have HS := Lib.hid hspec
  clear hspec
  generalize genS L (.stm 0 t e .nil .nil .nil false) S = RES at *
  have hcs := fun o => cell_of_heap (o := o) hcell
  have c0 := hcs 0
  have c2 := hcs 2
  have c5 := hcs 5
  simp only [List.getElem?_toArray, List.getElem?_cons_zero, List.getElem?_cons_succ] at c0 c2 c5
  clear hcs hcell
  obtain ⟨mpb, u1, hm1, hub, hlook⟩ := henv.place t.text (Nat.le_trans hft.1 (by simp [maxLen]))
  have hpz := henv.lok.place t.text.data.toList
  have hpl : placeOf L t = (L t.text.data.toList).getD (0, 0) := rfl
  unfold lookV at hlook
  generalize (L t.text.data.toList).getD (0, 0) = PL at *
  obtain ⟨pa, pz⟩ := PL
  rw [hpl] at HS
  simp only at HS hlook hpz
  have hmb := h.size
  have hbs := henv.hb
  have hS0 : ∀ w', Ext w w' → w'.cell? ⟨mb, 0, none⟩ = some (.pointer (some ⟨ub, 0, none⟩)) ∧ w'.cell? ⟨ub, 1, none⟩ = some (.map (some mpb)) ∧ w'.cell? ⟨sb, 2, none⟩ = some (.string t.text) ∧
      (Instr.lookup 48 (.map (some mpb)) (.string t.text) false).run Tryz.prog w' = .ok (.agg #[.int .i64 pa, .int .u32 pz]) w' := fun w' hE =>
    ⟨(hE.cell _ _ hmb.2).trans h.cells.1, (hE.cell _ _ (by omega)).trans u1, (hE.cell _ _ (by omega)).trans c2, hlook w' (hE.belowB hbs)⟩
  clear hpl hlook
  have hE0 : Ext w ((w.alloc (.cells #[.int .i64 pa, .int .u32 pz] 82)).drew) := ((Ext.refl w).alloc _).drew
  have hf := GFr.of_ext hE0 hbs
  have HFX := Lib.hid hf
  have HENV := Lib.hid (henv.keep hf.below)
  have HM0 := Lib.hid (h.ext hE0)
  have HB0 := Lib.hid (List.prefix_refl bs)
  have HBL := Lib.hid h.len
  have HG0 := Lib.hid (GLe.refl hw)
  have HW := Lib.hid hw
  have HVB : Hid (((w.alloc (.cells #[.int .i64 pa, .int .u32 pz] 82)).drew).heap[w.heap.size]? = some (.cells #[.int .i64 pa, .int .u32 pz] 82 (0, 0))) := by
    show _ = _
    rw [heapD, heapA, if_pos rfl]
  have HC5 : Hid (((w.alloc (.cells #[.int .i64 pa, .int .u32 pz] 82)).drew).cell? ⟨sb, 5, none⟩ = some (ve)) := (hf.below.cell (p := ⟨sb, 5, none⟩) hsb).trans c5
  have HE1 := Lib.hid hE1
  have HOE1 := Lib.hid hoe1
  have HAE1 := Lib.hid (ast_below hf.below hhi hae1)
  clear hf henv h hw hft c5 hE1 hoe1 hae1
  obtain ⟨tk, text, line, num⟩ := t
  simp only at *
  go_enter Tryz.func103, Tryz.ntmps103
  go_wp2_with fail
  refine wp_region_plan (fun w' => w'.cell? ⟨mb, 0, none⟩ = some (.pointer (some ⟨ub, 0, none⟩)) ∧ w'.cell? ⟨ub, 1, none⟩ = some (.map (some mpb)) ∧ w'.cell? ⟨sb, 2, none⟩ = some (.string text) ∧
        (Instr.lookup 48 (.map (some mpb)) (.string text) false).run Tryz.prog w' = .ok (.agg #[.int .i64 pa, .int .u32 pz]) w')
    [(0, true), (1, true), (2, true), (3, true), (4, true), (5, true), (6, true), (7, true), (8, true), (9, true), (10, true), (11, true), (12, true), (13, false), (14, false)] true (by kernel_rfl) (by kernel_rfl) (fun c a d v w h => by cases d <;> exact h) (hS0 _ (Ext.refl w).drew) ?_
  iterate 13 (refine ⟨_, ?_, rfl, Or.inl ⟨by rfl, ?_⟩, ?_⟩; rotate_left; (· intro w' hSw; (try dsimp only at hSw); go_simp; (try with_reducible rfl)); simp only [Act.put, List.setIfInBounds_toArray, List.set_cons_zero, List.set_cons_succ, List.getElem_toArray, List.getElem_cons_zero, List.getElem_cons_succ])
  refine wpPlan_act rfl (by rfl) (fun K hK => ?_)
  go_simp
  refine hK _ _ (fun _ => hS0 _ (((Ext.refl w).drew).alloc _)) ?_
  clear hK K
  try simp only [Act.put, List.setIfInBounds_toArray, List.set_cons_zero, List.set_cons_succ]
  refine wpPlan_act rfl (by rfl) (fun K hK => ?_)
  go_simp
  refine hK _ _ (fun h => absurd rfl h) ⟨rfl, ?_⟩
  clear hK K
  try simp only [Act.put, List.setIfInBounds_toArray, List.set_cons_zero, List.set_cons_succ]
  have k0 := (HFX.out.below.cell (p := ⟨sb, 0, none⟩) hsb).trans c0
  have HC0 := Lib.hid k0
  clear hS0 u1 c0 c2
  generalize hW : (w.alloc (.cells #[.int .i64 pa, .int .u32 pz] 82)).drew = W0 at *
  have HF0 := Lib.hid (GFr.refl base W0)
  have hbW : base ≤ W0.heap.size := HENV.out.hb
  clear hW hE0
  generalize w.heap.size = vbk at *
  try clear hmb hbs
  have k5_0 : W0.cell? ⟨sb, 5, none⟩ = some (ve) := (HF0.out.below.cell (p := ⟨sb, 5, none⟩) hsb).trans HC5.out
  go_wp2_with fail
  refine (HE1.out 0 ve _ bs _ lo hi HOE1.out (ast_below HF0.out.below hhi HAE1.out) hhi (HENV.out.keep HF0.out.below) HM0.out HG0.out.wf (by have := HG0.out.hi; omega) (by omega)).mono ?_
  rintro e w1 ⟨rfl, bs1, hpx, h1, h2⟩
  have HB1 := Lib.hid (HB0.out.trans hpx)
  clear hpx
  have HM1 := Lib.hid h1
  have HF1 := Lib.hid (HF0.out.trans h2)
  have HG1 := Lib.hid (HG0.out.trans (gle_genE L e 0 _ HG0.out.wf))
  clear h1 h2
  clear k0 k5_0
  have v1 := (HF1.out.typ _ _ _ HVB.out (.inl rfl)).trans HVB.out
  have va1 := cell_of_heap (o := 0) v1
  simp only [List.getElem?_toArray, List.getElem?_cons_zero] at va1
  clear v1
  go_wp2_with fail
  refine (put_any 20 4 7 pa _ HM1.out (by have := HG1.out.hi; omega)).mono ?_
  rintro e w2 ⟨rfl, h1, h2⟩
  have HM2 := Lib.hid h1
  have HF2 := Lib.hid (HF1.out.trans h2)
  have HG2 := Lib.hid (HG1.out.trans (gle_put HG1.out.wf 20 4 7 pa))
  clear h1 h2
  clear va1
  go_wp2_with fail
  go_end0
  rw [HS.out]
  exact ⟨rfl, _, HB1.out, HM2.out, HFX.out.trans HF2.out⟩

set_option maxRecDepth 100000 in
set_option maxHeartbeats 4000000 in
theorem stm1 {base mb ub N lo hi : Nat} {L : Places} {bs : List Nat} {S : GSt} (t : Tok) (sb : Nat) (w : World) (hft : t.fit) (hsb : sb < base) (hhi : hi ≤ base) (henv : GEnv w base ub N L) (h : MkAt w base mb ub bs S) (hw : S.wf) (e f : Ast) (ve vf : Value) (hE1 : ExpC base mb ub N L e) (hoe1 : e.okE) (hae1 : AstAt w lo hi e ve) (hE2 : ExpC base mb ub N L f) (hoe2 : f.okE) (hae2 : AstAt w lo hi f vf) (hcell : w.heap[sb]? = some (.cells #[.int .i64 (1 : Nat), .int .i64 t.kind, .string t.text, .int .i64 t.line, .int .u32 t.num, ve, vf, .pointer none, .pointer none, .bool false] 150 (0, 0))) (hlen : S.out.length + 8 * e.sz + 8 * f.sz + 8 ≤ 100000000) (hsz : e.sz + f.sz + 1 ≤ 1000000) :
    Calls Tryz.prog 103 #[.pointer (some ⟨mb, 0, none⟩), .pointer (some ⟨sb, 0, none⟩)] w (GenC w base mb ub bs (genS L (.stm 1 t e f .nil .nil false) S)) := by
  have hspec : genS L (.stm 1 t e f .nil .nil false) S = ((genE L f 1 ((bndF (placeOf L t).2 (genE L e 0 S)).put 20 4 7 480)).put 19 5 7 480).put 20 4 5 (placeOf L t).1 := rfl
  have HS := Lib.hid hspec
  clear hspec
  generalize genS L (.stm 1 t e f .nil .nil false) S = RES at *
  have hcs := fun o => cell_of_heap (o := o) hcell
  have c0 := hcs 0
  have c2 := hcs 2
  have c5 := hcs 5
  have c6 := hcs 6
  simp only [List.getElem?_toArray, List.getElem?_cons_zero, List.getElem?_cons_succ] at c0 c2 c5 c6
  clear hcs hcell
  obtain ⟨mpb, u1, hm1, hub, hlook⟩ := henv.place t.text (Nat.le_trans hft.1 (by simp [maxLen]))
  have hpz := henv.lok.place t.text.data.toList
  have hpl : placeOf L t = (L t.text.data.toList).getD (0, 0) := rfl
  unfold lookV at hlook
  generalize (L t.text.data.toList).getD (0, 0) = PL at *
  obtain ⟨pa, pz⟩ := PL
  rw [hpl] at HS
  simp only at HS hlook hpz
  have hmb := h.size
  have hbs := henv.hb
  have hS0 : ∀ w', Ext w w' → w'.cell? ⟨mb, 0, none⟩ = some (.pointer (some ⟨ub, 0, none⟩)) ∧ w'.cell? ⟨ub, 1, none⟩ = some (.map (some mpb)) ∧ w'.cell? ⟨sb, 2, none⟩ = some (.string t.text) ∧
      (Instr.lookup 48 (.map (some mpb)) (.string t.text) false).run Tryz.prog w' = .ok (.agg #[.int .i64 pa, .int .u32 pz]) w' := fun w' hE =>
    ⟨(hE.cell _ _ hmb.2).trans h.cells.1, (hE.cell _ _ (by omega)).trans u1, (hE.cell _ _ (by omega)).trans c2, hlook w' (hE.belowB hbs)⟩
  clear hpl hlook
  have hE0 : Ext w ((w.alloc (.cells #[.int .i64 pa, .int .u32 pz] 82)).drew) := ((Ext.refl w).alloc _).drew
  have hf := GFr.of_ext hE0 hbs
  have HFX := Lib.hid hf
  have HENV := Lib.hid (henv.keep hf.below)
  have HM0 := Lib.hid (h.ext hE0)
  have HB0 := Lib.hid (List.prefix_refl bs)
  have HBL := Lib.hid h.len
  have HG0 := Lib.hid (GLe.refl hw)
  have HW := Lib.hid hw
  have HVB : Hid (((w.alloc (.cells #[.int .i64 pa, .int .u32 pz] 82)).drew).heap[w.heap.size]? = some (.cells #[.int .i64 pa, .int .u32 pz] 82 (0, 0))) := by
    show _ = _
    rw [heapD, heapA, if_pos rfl]
  have HC5 : Hid (((w.alloc (.cells #[.int .i64 pa, .int .u32 pz] 82)).drew).cell? ⟨sb, 5, none⟩ = some (ve)) := (hf.below.cell (p := ⟨sb, 5, none⟩) hsb).trans c5
  have HC6 : Hid (((w.alloc (.cells #[.int .i64 pa, .int .u32 pz] 82)).drew).cell? ⟨sb, 6, none⟩ = some (vf)) := (hf.below.cell (p := ⟨sb, 6, none⟩) hsb).trans c6
  have HE1 := Lib.hid hE1
  have HOE1 := Lib.hid hoe1
  have HAE1 := Lib.hid (ast_below hf.below hhi hae1)
  have HE2 := Lib.hid hE2
  have HOE2 := Lib.hid hoe2
  have HAE2 := Lib.hid (ast_below hf.below hhi hae2)
  clear hf henv h hw hft c5 c6 hE1 hoe1 hae1 hE2 hoe2 hae2
  obtain ⟨tk, text, line, num⟩ := t
  simp only at *
  go_enter Tryz.func103, Tryz.ntmps103
  go_wp2_with fail
  refine wp_region_plan (fun w' => w'.cell? ⟨mb, 0, none⟩ = some (.pointer (some ⟨ub, 0, none⟩)) ∧ w'.cell? ⟨ub, 1, none⟩ = some (.map (some mpb)) ∧ w'.cell? ⟨sb, 2, none⟩ = some (.string text) ∧
        (Instr.lookup 48 (.map (some mpb)) (.string text) false).run Tryz.prog w' = .ok (.agg #[.int .i64 pa, .int .u32 pz]) w')
    [(0, true), (1, true), (2, true), (3, true), (4, true), (5, true), (6, true), (7, true), (8, true), (9, true), (10, true), (11, true), (12, true), (13, false), (14, false)] true (by kernel_rfl) (by kernel_rfl) (fun c a d v w h => by cases d <;> exact h) (hS0 _ (Ext.refl w).drew) ?_
  iterate 13 (refine ⟨_, ?_, rfl, Or.inl ⟨by rfl, ?_⟩, ?_⟩; rotate_left; (· intro w' hSw; (try dsimp only at hSw); go_simp; (try with_reducible rfl)); simp only [Act.put, List.setIfInBounds_toArray, List.set_cons_zero, List.set_cons_succ, List.getElem_toArray, List.getElem_cons_zero, List.getElem_cons_succ])
  refine wpPlan_act rfl (by rfl) (fun K hK => ?_)
  go_simp
  refine hK _ _ (fun _ => hS0 _ (((Ext.refl w).drew).alloc _)) ?_
  clear hK K
  try simp only [Act.put, List.setIfInBounds_toArray, List.set_cons_zero, List.set_cons_succ]
  refine wpPlan_act rfl (by rfl) (fun K hK => ?_)
  go_simp
  refine hK _ _ (fun h => absurd rfl h) ⟨rfl, ?_⟩
  clear hK K
  try simp only [Act.put, List.setIfInBounds_toArray, List.set_cons_zero, List.set_cons_succ]
  have k0 := (HFX.out.below.cell (p := ⟨sb, 0, none⟩) hsb).trans c0
  have HC0 := Lib.hid k0
  clear hS0 u1 c0 c2
  generalize hW : (w.alloc (.cells #[.int .i64 pa, .int .u32 pz] 82)).drew = W0 at *
  have HF0 := Lib.hid (GFr.refl base W0)
  have hbW : base ≤ W0.heap.size := HENV.out.hb
  clear hW hE0
  generalize w.heap.size = vbk at *
  try clear hmb hbs
  have k5_0 : W0.cell? ⟨sb, 5, none⟩ = some (ve) := (HF0.out.below.cell (p := ⟨sb, 5, none⟩) hsb).trans HC5.out
  go_wp2_with fail
  refine (HE1.out 0 ve _ bs _ lo hi HOE1.out (ast_below HF0.out.below hhi HAE1.out) hhi (HENV.out.keep HF0.out.below) HM0.out HG0.out.wf (by have := HG0.out.hi; omega) (by omega)).mono ?_
  rintro e w1 ⟨rfl, bs1, hpx, h1, h2⟩
  have HB1 := Lib.hid (HB0.out.trans hpx)
  clear hpx
  have HM1 := Lib.hid h1
  have HF1 := Lib.hid (HF0.out.trans h2)
  have HG1 := Lib.hid (HG0.out.trans (gle_genE L e 0 _ HG0.out.wf))
  clear h1 h2
  clear k0 k5_0
  have v1 := (HF1.out.typ _ _ _ HVB.out (.inl rfl)).trans HVB.out
  have va1 := cell_of_heap (o := 0) v1
  have vz1 := cell_of_heap (o := 1) v1
  simp only [List.getElem?_toArray, List.getElem?_cons_zero, List.getElem?_cons_succ] at va1 vz1
  clear v1
  go_wp2_with fail
  refine (bound_any pa pz hpz.1 hpz.2 _ HM1.out HG1.out.wf (Nat.le_trans hbW HF1.out.below.size) (by have := HG1.out.hi; omega)).mono ?_
  rintro e w2 ⟨rfl, bs2, hpx, h1, h2⟩
  have HB2 := Lib.hid (HB1.out.trans hpx)
  clear hpx
  have HM2 := Lib.hid h1
  have HF2 := Lib.hid (HF1.out.trans h2)
  have HG2 := Lib.hid (HG1.out.trans (gle_bnd HG1.out.wf pz))
  clear h1 h2
  clear va1 vz1
  go_wp2_with fail
  refine (put_any 20 4 7 480 _ HM2.out (by have := HG2.out.hi; omega)).mono ?_
  rintro e w3 ⟨rfl, h1, h2⟩
  have HM3 := Lib.hid h1
  have HF3 := Lib.hid (HF2.out.trans h2)
  have HG3 := Lib.hid (HG2.out.trans (gle_put HG2.out.wf 20 4 7 480))
  clear h1 h2
  have k6_3 : w3.cell? ⟨sb, 6, none⟩ = some (vf) := (HF3.out.below.cell (p := ⟨sb, 6, none⟩) hsb).trans HC6.out
  go_wp2_with fail
  refine (HE2.out 1 vf _ bs2 _ lo hi HOE2.out (ast_below HF3.out.below hhi HAE2.out) hhi (HENV.out.keep HF3.out.below) HM3.out HG3.out.wf (by have := HG3.out.hi; omega) (by omega)).mono ?_
  rintro e w4 ⟨rfl, bs3, hpx, h1, h2⟩
  have HB3 := Lib.hid (HB2.out.trans hpx)
  clear hpx
  have HM4 := Lib.hid h1
  have HF4 := Lib.hid (HF3.out.trans h2)
  have HG4 := Lib.hid (HG3.out.trans (gle_genE L f 1 _ HG3.out.wf))
  clear h1 h2
  clear k6_3
  go_wp2_with fail
  refine (put_any 19 5 7 480 _ HM4.out (by have := HG4.out.hi; omega)).mono ?_
  rintro e w5 ⟨rfl, h1, h2⟩
  have HM5 := Lib.hid h1
  have HF5 := Lib.hid (HF4.out.trans h2)
  have HG5 := Lib.hid (HG4.out.trans (gle_put HG4.out.wf 19 5 7 480))
  clear h1 h2
  have v5 := (HF5.out.typ _ _ _ HVB.out (.inl rfl)).trans HVB.out
  have va5 := cell_of_heap (o := 0) v5
  simp only [List.getElem?_toArray, List.getElem?_cons_zero] at va5
  clear v5
  go_wp2_with fail
  refine (put_any 20 4 5 pa _ HM5.out (by have := HG5.out.hi; omega)).mono ?_
  rintro e w6 ⟨rfl, h1, h2⟩
  have HM6 := Lib.hid h1
  have HF6 := Lib.hid (HF5.out.trans h2)
  have HG6 := Lib.hid (HG5.out.trans (gle_put HG5.out.wf 20 4 5 pa))
  clear h1 h2
  clear va5
  go_wp2_with fail
  go_end0
  rw [HS.out]
  exact ⟨rfl, _, HB3.out, HM6.out, HFX.out.trans HF6.out⟩

set_option maxRecDepth 100000 in
set_option maxHeartbeats 4000000 in
theorem stm4 {base mb ub N lo hi : Nat} {L : Places} {bs : List Nat} {S : GSt} (t : Tok) (sb : Nat) (w : World) (hft : t.fit) (hsb : sb < base) (hhi : hi ≤ base) (henv : GEnv w base ub N L) (h : MkAt w base mb ub bs S) (hw : S.wf) (e : Ast) (ve : Value) (hE1 : ExpC base mb ub N L e) (hoe1 : e.okE) (hae1 : AstAt w lo hi e ve) (hcell : w.heap[sb]? = some (.cells #[.int .i64 (4 : Nat), .int .i64 t.kind, .string t.text, .int .i64 t.line, .int .u32 t.num, ve, .pointer none, .pointer none, .pointer none, .bool false] 150 (0, 0))) (hlen : S.out.length + 8 * e.sz + 8 ≤ 100000000) (hsz : e.sz ≤ 1000000) :
    Calls Tryz.prog 103 #[.pointer (some ⟨mb, 0, none⟩), .pointer (some ⟨sb, 0, none⟩)] w (GenC w base mb ub bs (genS L (.stm 4 t e .nil .nil .nil false) S)) := by
  have hspec : genS L (.stm 4 t e .nil .nil .nil false) S = ((genE L e 0 S).put 4 1 4 0).put 26 0 0 14 := rfl
  have HS := Lib.hid hspec
  clear hspec
  generalize genS L (.stm 4 t e .nil .nil .nil false) S = RES at *
  have hcs := fun o => cell_of_heap (o := o) hcell
  have c0 := hcs 0
  have c2 := hcs 2
  have c5 := hcs 5
  simp only [List.getElem?_toArray, List.getElem?_cons_zero, List.getElem?_cons_succ] at c0 c2 c5
  clear hcs hcell
  obtain ⟨mpb, u1, hm1, hub, hlook⟩ := henv.place t.text (Nat.le_trans hft.1 (by simp [maxLen]))
  have hpz := henv.lok.place t.text.data.toList
  have hpl : placeOf L t = (L t.text.data.toList).getD (0, 0) := rfl
  unfold lookV at hlook
  generalize (L t.text.data.toList).getD (0, 0) = PL at *
  obtain ⟨pa, pz⟩ := PL
  simp only at HS hlook hpz
  have hmb := h.size
  have hbs := henv.hb
  have hS0 : ∀ w', Ext w w' → w'.cell? ⟨mb, 0, none⟩ = some (.pointer (some ⟨ub, 0, none⟩)) ∧ w'.cell? ⟨ub, 1, none⟩ = some (.map (some mpb)) ∧ w'.cell? ⟨sb, 2, none⟩ = some (.string t.text) ∧
      (Instr.lookup 48 (.map (some mpb)) (.string t.text) false).run Tryz.prog w' = .ok (.agg #[.int .i64 pa, .int .u32 pz]) w' := fun w' hE =>
    ⟨(hE.cell _ _ hmb.2).trans h.cells.1, (hE.cell _ _ (by omega)).trans u1, (hE.cell _ _ (by omega)).trans c2, hlook w' (hE.belowB hbs)⟩
  clear hpl hlook
  have hE0 : Ext w ((w.alloc (.cells #[.int .i64 pa, .int .u32 pz] 82)).drew) := ((Ext.refl w).alloc _).drew
  have hf := GFr.of_ext hE0 hbs
  have HFX := Lib.hid hf
  have HENV := Lib.hid (henv.keep hf.below)
  have HM0 := Lib.hid (h.ext hE0)
  have HB0 := Lib.hid (List.prefix_refl bs)
  have HBL := Lib.hid h.len
  have HG0 := Lib.hid (GLe.refl hw)
  have HW := Lib.hid hw
  have HVB : Hid (((w.alloc (.cells #[.int .i64 pa, .int .u32 pz] 82)).drew).heap[w.heap.size]? = some (.cells #[.int .i64 pa, .int .u32 pz] 82 (0, 0))) := by
    show _ = _
    rw [heapD, heapA, if_pos rfl]
  have HC5 : Hid (((w.alloc (.cells #[.int .i64 pa, .int .u32 pz] 82)).drew).cell? ⟨sb, 5, none⟩ = some (ve)) := (hf.below.cell (p := ⟨sb, 5, none⟩) hsb).trans c5
  have HE1 := Lib.hid hE1
  have HOE1 := Lib.hid hoe1
  have HAE1 := Lib.hid (ast_below hf.below hhi hae1)
  clear hf henv h hw hft c5 hE1 hoe1 hae1
  obtain ⟨tk, text, line, num⟩ := t
  simp only at *
  go_enter Tryz.func103, Tryz.ntmps103
  go_wp2_with fail
  refine wp_region_plan (fun w' => w'.cell? ⟨mb, 0, none⟩ = some (.pointer (some ⟨ub, 0, none⟩)) ∧ w'.cell? ⟨ub, 1, none⟩ = some (.map (some mpb)) ∧ w'.cell? ⟨sb, 2, none⟩ = some (.string text) ∧
        (Instr.lookup 48 (.map (some mpb)) (.string text) false).run Tryz.prog w' = .ok (.agg #[.int .i64 pa, .int .u32 pz]) w')
    [(0, true), (1, true), (2, true), (3, true), (4, true), (5, true), (6, true), (7, true), (8, true), (9, true), (10, true), (11, true), (12, true), (13, false), (14, false)] true (by kernel_rfl) (by kernel_rfl) (fun c a d v w h => by cases d <;> exact h) (hS0 _ (Ext.refl w).drew) ?_
  iterate 13 (refine ⟨_, ?_, rfl, Or.inl ⟨by rfl, ?_⟩, ?_⟩; rotate_left; (· intro w' hSw; (try dsimp only at hSw); go_simp; (try with_reducible rfl)); simp only [Act.put, List.setIfInBounds_toArray, List.set_cons_zero, List.set_cons_succ, List.getElem_toArray, List.getElem_cons_zero, List.getElem_cons_succ])
  refine wpPlan_act rfl (by rfl) (fun K hK => ?_)
  go_simp
  refine hK _ _ (fun _ => hS0 _ (((Ext.refl w).drew).alloc _)) ?_
  clear hK K
  try simp only [Act.put, List.setIfInBounds_toArray, List.set_cons_zero, List.set_cons_succ]
  refine wpPlan_act rfl (by rfl) (fun K hK => ?_)
  go_simp
  refine hK _ _ (fun h => absurd rfl h) ⟨rfl, ?_⟩
  clear hK K
  try simp only [Act.put, List.setIfInBounds_toArray, List.set_cons_zero, List.set_cons_succ]
  have k0 := (HFX.out.below.cell (p := ⟨sb, 0, none⟩) hsb).trans c0
  have HC0 := Lib.hid k0
  clear hS0 u1 c0 c2
  generalize hW : (w.alloc (.cells #[.int .i64 pa, .int .u32 pz] 82)).drew = W0 at *
  have HF0 := Lib.hid (GFr.refl base W0)
  have hbW : base ≤ W0.heap.size := HENV.out.hb
  clear hW hE0
  generalize w.heap.size = vbk at *
  try clear hmb hbs
  have k5_0 : W0.cell? ⟨sb, 5, none⟩ = some (ve) := (HF0.out.below.cell (p := ⟨sb, 5, none⟩) hsb).trans HC5.out
  go_wp2_with fail
  refine (HE1.out 0 ve _ bs _ lo hi HOE1.out (ast_below HF0.out.below hhi HAE1.out) hhi (HENV.out.keep HF0.out.below) HM0.out HG0.out.wf (by have := HG0.out.hi; omega) (by omega)).mono ?_
  rintro e w1 ⟨rfl, bs1, hpx, h1, h2⟩
  have HB1 := Lib.hid (HB0.out.trans hpx)
  clear hpx
  have HM1 := Lib.hid h1
  have HF1 := Lib.hid (HF0.out.trans h2)
  have HG1 := Lib.hid (HG0.out.trans (gle_genE L e 0 _ HG0.out.wf))
  clear h1 h2
  clear k0 k5_0
  go_wp2_with fail
  refine (put_any 4 1 4 0 _ HM1.out (by have := HG1.out.hi; omega)).mono ?_
  rintro e w2 ⟨rfl, h1, h2⟩
  have HM2 := Lib.hid h1
  have HF2 := Lib.hid (HF1.out.trans h2)
  have HG2 := Lib.hid (HG1.out.trans (gle_put HG1.out.wf 4 1 4 0))
  clear h1 h2
  have k0_2 : w2.cell? ⟨sb, 0, none⟩ = _ := (HF2.out.below.cell (p := ⟨sb, 0, none⟩) hsb).trans HC0.out
  go_wp2_with fail
  refine (put_any 26 0 0 14 _ HM2.out (by have := HG2.out.hi; omega)).mono ?_
  rintro e w3 ⟨rfl, h1, h2⟩
  have HM3 := Lib.hid h1
  have HF3 := Lib.hid (HF2.out.trans h2)
  have HG3 := Lib.hid (HG2.out.trans (gle_put HG2.out.wf 26 0 0 14))
  clear h1 h2
  clear k0_2
  go_wp2_with fail
  go_end0
  rw [HS.out]
  exact ⟨rfl, _, HB1.out, HM3.out, HFX.out.trans HF3.out⟩

set_option maxRecDepth 100000 in
set_option maxHeartbeats 4000000 in
theorem stm5 {base mb ub N lo hi : Nat} {L : Places} {bs : List Nat} {S : GSt} (t : Tok) (sb : Nat) (w : World) (hft : t.fit) (hsb : sb < base) (hhi : hi ≤ base) (henv : GEnv w base ub N L) (h : MkAt w base mb ub bs S) (hw : S.wf) (e : Ast) (ve : Value) (hE1 : ExpC base mb ub N L e) (hoe1 : e.okE) (hae1 : AstAt w lo hi e ve) (hcell : w.heap[sb]? = some (.cells #[.int .i64 (5 : Nat), .int .i64 t.kind, .string t.text, .int .i64 t.line, .int .u32 t.num, ve, .pointer none, .pointer none, .pointer none, .bool false] 150 (0, 0))) (hlen : S.out.length + 8 * e.sz + 8 ≤ 100000000) (hsz : e.sz ≤ 1000000) :
    Calls Tryz.prog 103 #[.pointer (some ⟨mb, 0, none⟩), .pointer (some ⟨sb, 0, none⟩)] w (GenC w base mb ub bs (genS L (.stm 5 t e .nil .nil .nil false) S)) := by
  have hspec : genS L (.stm 5 t e .nil .nil .nil false) S = ((genE L e 0 S).put 4 1 4 0).put 26 0 0 1 := rfl
  have HS := Lib.hid hspec
  clear hspec
  generalize genS L (.stm 5 t e .nil .nil .nil false) S = RES at *
  have hcs := fun o => cell_of_heap (o := o) hcell
  have c0 := hcs 0
  have c2 := hcs 2
  have c5 := hcs 5
  simp only [List.getElem?_toArray, List.getElem?_cons_zero, List.getElem?_cons_succ] at c0 c2 c5
  clear hcs hcell
  obtain ⟨mpb, u1, hm1, hub, hlook⟩ := henv.place t.text (Nat.le_trans hft.1 (by simp [maxLen]))
  have hpz := henv.lok.place t.text.data.toList
  have hpl : placeOf L t = (L t.text.data.toList).getD (0, 0) := rfl
  unfold lookV at hlook
  generalize (L t.text.data.toList).getD (0, 0) = PL at *
  obtain ⟨pa, pz⟩ := PL
  simp only at HS hlook hpz
  have hmb := h.size
  have hbs := henv.hb
  have hS0 : ∀ w', Ext w w' → w'.cell? ⟨mb, 0, none⟩ = some (.pointer (some ⟨ub, 0, none⟩)) ∧ w'.cell? ⟨ub, 1, none⟩ = some (.map (some mpb)) ∧ w'.cell? ⟨sb, 2, none⟩ = some (.string t.text) ∧
      (Instr.lookup 48 (.map (some mpb)) (.string t.text) false).run Tryz.prog w' = .ok (.agg #[.int .i64 pa, .int .u32 pz]) w' := fun w' hE =>
    ⟨(hE.cell _ _ hmb.2).trans h.cells.1, (hE.cell _ _ (by omega)).trans u1, (hE.cell _ _ (by omega)).trans c2, hlook w' (hE.belowB hbs)⟩
  clear hpl hlook
  have hE0 : Ext w ((w.alloc (.cells #[.int .i64 pa, .int .u32 pz] 82)).drew) := ((Ext.refl w).alloc _).drew
  have hf := GFr.of_ext hE0 hbs
  have HFX := Lib.hid hf
  have HENV := Lib.hid (henv.keep hf.below)
  have HM0 := Lib.hid (h.ext hE0)
  have HB0 := Lib.hid (List.prefix_refl bs)
  have HBL := Lib.hid h.len
  have HG0 := Lib.hid (GLe.refl hw)
  have HW := Lib.hid hw
  have HVB : Hid (((w.alloc (.cells #[.int .i64 pa, .int .u32 pz] 82)).drew).heap[w.heap.size]? = some (.cells #[.int .i64 pa, .int .u32 pz] 82 (0, 0))) := by
    show _ = _
    rw [heapD, heapA, if_pos rfl]
  have HC5 : Hid (((w.alloc (.cells #[.int .i64 pa, .int .u32 pz] 82)).drew).cell? ⟨sb, 5, none⟩ = some (ve)) := (hf.below.cell (p := ⟨sb, 5, none⟩) hsb).trans c5
  have HE1 := Lib.hid hE1
  have HOE1 := Lib.hid hoe1
  have HAE1 := Lib.hid (ast_below hf.below hhi hae1)
  clear hf henv h hw hft c5 hE1 hoe1 hae1
  obtain ⟨tk, text, line, num⟩ := t
  simp only at *
  go_enter Tryz.func103, Tryz.ntmps103
  go_wp2_with fail
  refine wp_region_plan (fun w' => w'.cell? ⟨mb, 0, none⟩ = some (.pointer (some ⟨ub, 0, none⟩)) ∧ w'.cell? ⟨ub, 1, none⟩ = some (.map (some mpb)) ∧ w'.cell? ⟨sb, 2, none⟩ = some (.string text) ∧
        (Instr.lookup 48 (.map (some mpb)) (.string text) false).run Tryz.prog w' = .ok (.agg #[.int .i64 pa, .int .u32 pz]) w')
    [(0, true), (1, true), (2, true), (3, true), (4, true), (5, true), (6, true), (7, true), (8, true), (9, true), (10, true), (11, true), (12, true), (13, false), (14, false)] true (by kernel_rfl) (by kernel_rfl) (fun c a d v w h => by cases d <;> exact h) (hS0 _ (Ext.refl w).drew) ?_
  iterate 13 (refine ⟨_, ?_, rfl, Or.inl ⟨by rfl, ?_⟩, ?_⟩; rotate_left; (· intro w' hSw; (try dsimp only at hSw); go_simp; (try with_reducible rfl)); simp only [Act.put, List.setIfInBounds_toArray, List.set_cons_zero, List.set_cons_succ, List.getElem_toArray, List.getElem_cons_zero, List.getElem_cons_succ])
  refine wpPlan_act rfl (by rfl) (fun K hK => ?_)
  go_simp
  refine hK _ _ (fun _ => hS0 _ (((Ext.refl w).drew).alloc _)) ?_
  clear hK K
  try simp only [Act.put, List.setIfInBounds_toArray, List.set_cons_zero, List.set_cons_succ]
  refine wpPlan_act rfl (by rfl) (fun K hK => ?_)
  go_simp
  refine hK _ _ (fun h => absurd rfl h) ⟨rfl, ?_⟩
  clear hK K
  try simp only [Act.put, List.setIfInBounds_toArray, List.set_cons_zero, List.set_cons_succ]
  have k0 := (HFX.out.below.cell (p := ⟨sb, 0, none⟩) hsb).trans c0
  have HC0 := Lib.hid k0
  clear hS0 u1 c0 c2
  generalize hW : (w.alloc (.cells #[.int .i64 pa, .int .u32 pz] 82)).drew = W0 at *
  have HF0 := Lib.hid (GFr.refl base W0)
  have hbW : base ≤ W0.heap.size := HENV.out.hb
  clear hW hE0
  generalize w.heap.size = vbk at *
  try clear hmb hbs
  have k5_0 : W0.cell? ⟨sb, 5, none⟩ = some (ve) := (HF0.out.below.cell (p := ⟨sb, 5, none⟩) hsb).trans HC5.out
  go_wp2_with fail
  refine (HE1.out 0 ve _ bs _ lo hi HOE1.out (ast_below HF0.out.below hhi HAE1.out) hhi (HENV.out.keep HF0.out.below) HM0.out HG0.out.wf (by have := HG0.out.hi; omega) (by omega)).mono ?_
  rintro e w1 ⟨rfl, bs1, hpx, h1, h2⟩
  have HB1 := Lib.hid (HB0.out.trans hpx)
  clear hpx
  have HM1 := Lib.hid h1
  have HF1 := Lib.hid (HF0.out.trans h2)
  have HG1 := Lib.hid (HG0.out.trans (gle_genE L e 0 _ HG0.out.wf))
  clear h1 h2
  clear k0 k5_0
  go_wp2_with fail
  refine (put_any 4 1 4 0 _ HM1.out (by have := HG1.out.hi; omega)).mono ?_
  rintro e w2 ⟨rfl, h1, h2⟩
  have HM2 := Lib.hid h1
  have HF2 := Lib.hid (HF1.out.trans h2)
  have HG2 := Lib.hid (HG1.out.trans (gle_put HG1.out.wf 4 1 4 0))
  clear h1 h2
  have k0_2 : w2.cell? ⟨sb, 0, none⟩ = _ := (HF2.out.below.cell (p := ⟨sb, 0, none⟩) hsb).trans HC0.out
  go_wp2_with fail
  refine (put_any 26 0 0 1 _ HM2.out (by have := HG2.out.hi; omega)).mono ?_
  rintro e w3 ⟨rfl, h1, h2⟩
  have HM3 := Lib.hid h1
  have HF3 := Lib.hid (HF2.out.trans h2)
  have HG3 := Lib.hid (HG2.out.trans (gle_put HG2.out.wf 26 0 0 1))
  clear h1 h2
  clear k0_2
  go_wp2_with fail
  go_end0
  rw [HS.out]
  exact ⟨rfl, _, HB1.out, HM3.out, HFX.out.trans HF3.out⟩

set_option maxRecDepth 100000 in
set_option maxHeartbeats 4000000 in
theorem stm6 {base mb ub N _lo hi : Nat} {L : Places} {bs : List Nat} {S : GSt} (t : Tok) (sb : Nat) (w : World) (hft : t.fit) (hsb : sb < base) (_ : hi ≤ base) (henv : GEnv w base ub N L) (h : MkAt w base mb ub bs S) (hw : S.wf) (hcell : w.heap[sb]? = some (.cells #[.int .i64 (6 : Nat), .int .i64 t.kind, .string t.text, .int .i64 t.line, .int .u32 t.num, .pointer none, .pointer none, .pointer none, .pointer none, .bool false] 150 (0, 0))) (hlen : S.out.length + 8 ≤ 100000000) :
    Calls Tryz.prog 103 #[.pointer (some ⟨mb, 0, none⟩), .pointer (some ⟨sb, 0, none⟩)] w (GenC w base mb ub bs (genS L (.stm 6 t .nil .nil .nil .nil false) S)) := by
  have hspec : genS L (.stm 6 t .nil .nil .nil .nil false) S = S.put 26 0 0 0 := rfl
  have HS := Lib.hid hspec
  clear hspec
  generalize genS L (.stm 6 t .nil .nil .nil .nil false) S = RES at *
  have hcs := fun o => cell_of_heap (o := o) hcell
  have c0 := hcs 0
  have c2 := hcs 2
  simp only [List.getElem?_toArray, List.getElem?_cons_zero, List.getElem?_cons_succ] at c0 c2
  clear hcs hcell
  obtain ⟨mpb, u1, hm1, hub, hlook⟩ := henv.place t.text (Nat.le_trans hft.1 (by simp [maxLen]))
  have hpz := henv.lok.place t.text.data.toList
  have hpl : placeOf L t = (L t.text.data.toList).getD (0, 0) := rfl
  unfold lookV at hlook
  generalize (L t.text.data.toList).getD (0, 0) = PL at *
  obtain ⟨pa, pz⟩ := PL
  simp only at HS hlook hpz
  have hmb := h.size
  have hbs := henv.hb
  have hS0 : ∀ w', Ext w w' → w'.cell? ⟨mb, 0, none⟩ = some (.pointer (some ⟨ub, 0, none⟩)) ∧ w'.cell? ⟨ub, 1, none⟩ = some (.map (some mpb)) ∧ w'.cell? ⟨sb, 2, none⟩ = some (.string t.text) ∧
      (Instr.lookup 48 (.map (some mpb)) (.string t.text) false).run Tryz.prog w' = .ok (.agg #[.int .i64 pa, .int .u32 pz]) w' := fun w' hE =>
    ⟨(hE.cell _ _ hmb.2).trans h.cells.1, (hE.cell _ _ (by omega)).trans u1, (hE.cell _ _ (by omega)).trans c2, hlook w' (hE.belowB hbs)⟩
  clear hpl hlook
  have hE0 : Ext w ((w.alloc (.cells #[.int .i64 pa, .int .u32 pz] 82)).drew) := ((Ext.refl w).alloc _).drew
  have hf := GFr.of_ext hE0 hbs
  have HFX := Lib.hid hf
  have HENV := Lib.hid (henv.keep hf.below)
  have HM0 := Lib.hid (h.ext hE0)
  have HB0 := Lib.hid (List.prefix_refl bs)
  have HBL := Lib.hid h.len
  have HG0 := Lib.hid (GLe.refl hw)
  have HW := Lib.hid hw
  have HVB : Hid (((w.alloc (.cells #[.int .i64 pa, .int .u32 pz] 82)).drew).heap[w.heap.size]? = some (.cells #[.int .i64 pa, .int .u32 pz] 82 (0, 0))) := by
    show _ = _
    rw [heapD, heapA, if_pos rfl]
  clear hf henv h hw hft  
  obtain ⟨tk, text, line, num⟩ := t
  simp only at *
  go_enter Tryz.func103, Tryz.ntmps103
  go_wp2_with fail
  refine wp_region_plan (fun w' => w'.cell? ⟨mb, 0, none⟩ = some (.pointer (some ⟨ub, 0, none⟩)) ∧ w'.cell? ⟨ub, 1, none⟩ = some (.map (some mpb)) ∧ w'.cell? ⟨sb, 2, none⟩ = some (.string text) ∧
        (Instr.lookup 48 (.map (some mpb)) (.string text) false).run Tryz.prog w' = .ok (.agg #[.int .i64 pa, .int .u32 pz]) w')
    [(0, true), (1, true), (2, true), (3, true), (4, true), (5, true), (6, true), (7, true), (8, true), (9, true), (10, true), (11, true), (12, true), (13, false), (14, false)] true (by kernel_rfl) (by kernel_rfl) (fun c a d v w h => by cases d <;> exact h) (hS0 _ (Ext.refl w).drew) ?_
  iterate 13 (refine ⟨_, ?_, rfl, Or.inl ⟨by rfl, ?_⟩, ?_⟩; rotate_left; (· intro w' hSw; (try dsimp only at hSw); go_simp; (try with_reducible rfl)); simp only [Act.put, List.setIfInBounds_toArray, List.set_cons_zero, List.set_cons_succ, List.getElem_toArray, List.getElem_cons_zero, List.getElem_cons_succ])
  refine wpPlan_act rfl (by rfl) (fun K hK => ?_)
  go_simp
  refine hK _ _ (fun _ => hS0 _ (((Ext.refl w).drew).alloc _)) ?_
  clear hK K
  try simp only [Act.put, List.setIfInBounds_toArray, List.set_cons_zero, List.set_cons_succ]
  refine wpPlan_act rfl (by rfl) (fun K hK => ?_)
  go_simp
  refine hK _ _ (fun h => absurd rfl h) ⟨rfl, ?_⟩
  clear hK K
  try simp only [Act.put, List.setIfInBounds_toArray, List.set_cons_zero, List.set_cons_succ]
  have k0 := (HFX.out.below.cell (p := ⟨sb, 0, none⟩) hsb).trans c0
  have HC0 := Lib.hid k0
  clear hS0 u1 c0 c2
  generalize hW : (w.alloc (.cells #[.int .i64 pa, .int .u32 pz] 82)).drew = W0 at *
  have HF0 := Lib.hid (GFr.refl base W0)
  have hbW : base ≤ W0.heap.size := HENV.out.hb
  clear hW hE0
  generalize w.heap.size = vbk at *
  try clear hmb hbs
  go_wp2_with fail
  refine (put_any 26 0 0 0 _ HM0.out (by have := HG0.out.hi; omega)).mono ?_
  rintro e w1 ⟨rfl, h1, h2⟩
  have HM1 := Lib.hid h1
  have HF1 := Lib.hid (HF0.out.trans h2)
  have HG1 := Lib.hid (HG0.out.trans (gle_put HG0.out.wf 26 0 0 0))
  clear h1 h2
  clear k0
  go_wp2_with fail
  go_end0
  rw [HS.out]
  exact ⟨rfl, _, HB0.out, HM1.out, HFX.out.trans HF1.out⟩

set_option maxRecDepth 100000 in
set_option maxHeartbeats 4000000 in
theorem stm7 {base mb ub N _lo hi : Nat} {L : Places} {bs : List Nat} {S : GSt} (t : Tok) (sb : Nat) (w : World) (hft : t.fit) (hsb : sb < base) (_ : hi ≤ base) (henv : GEnv w base ub N L) (h : MkAt w base mb ub bs S) (hw : S.wf) (i : Nat) (hi7 : S.tail = some i) (hcell : w.heap[sb]? = some (.cells #[.int .i64 (7 : Nat), .int .i64 t.kind, .string t.text, .int .i64 t.line, .int .u32 t.num, .pointer none, .pointer none, .pointer none, .pointer none, .bool false] 150 (0, 0))) (hlen : S.out.length + 8 ≤ 100000000) :
    Calls Tryz.prog 103 #[.pointer (some ⟨mb, 0, none⟩), .pointer (some ⟨sb, 0, none⟩)] w (GenC w base mb ub bs (genS L (.stm 7 t .nil .nil .nil .nil false) S)) := by
  have hspec : genS L (.stm 7 t .nil .nil .nil .nil false) S = S.jump 21 0 (S.tail.getD 0) := rfl
  have HS := Lib.hid hspec
  clear hspec
  generalize genS L (.stm 7 t .nil .nil .nil .nil false) S = RES at *
  have hcs := fun o => cell_of_heap (o := o) hcell
  have c0 := hcs 0
  have c2 := hcs 2
  simp only [List.getElem?_toArray, List.getElem?_cons_zero, List.getElem?_cons_succ] at c0 c2
  clear hcs hcell
  obtain ⟨mpb, u1, hm1, hub, hlook⟩ := henv.place t.text (Nat.le_trans hft.1 (by simp [maxLen]))
  have hpz := henv.lok.place t.text.data.toList
  have hpl : placeOf L t = (L t.text.data.toList).getD (0, 0) := rfl
  unfold lookV at hlook
  generalize (L t.text.data.toList).getD (0, 0) = PL at *
  obtain ⟨pa, pz⟩ := PL
  simp only at HS hlook hpz
  have hmb := h.size
  have hbs := henv.hb
  have hS0 : ∀ w', Ext w w' → w'.cell? ⟨mb, 0, none⟩ = some (.pointer (some ⟨ub, 0, none⟩)) ∧ w'.cell? ⟨ub, 1, none⟩ = some (.map (some mpb)) ∧ w'.cell? ⟨sb, 2, none⟩ = some (.string t.text) ∧
      (Instr.lookup 48 (.map (some mpb)) (.string t.text) false).run Tryz.prog w' = .ok (.agg #[.int .i64 pa, .int .u32 pz]) w' := fun w' hE =>
    ⟨(hE.cell _ _ hmb.2).trans h.cells.1, (hE.cell _ _ (by omega)).trans u1, (hE.cell _ _ (by omega)).trans c2, hlook w' (hE.belowB hbs)⟩
  clear hpl hlook
  have hE0 : Ext w ((w.alloc (.cells #[.int .i64 pa, .int .u32 pz] 82)).drew) := ((Ext.refl w).alloc _).drew
  have hf := GFr.of_ext hE0 hbs
  have HFX := Lib.hid hf
  have HENV := Lib.hid (henv.keep hf.below)
  have HM0 := Lib.hid (h.ext hE0)
  have HB0 := Lib.hid (List.prefix_refl bs)
  have HBL := Lib.hid h.len
  have HG0 := Lib.hid (GLe.refl hw)
  have HW := Lib.hid hw
  have HVB : Hid (((w.alloc (.cells #[.int .i64 pa, .int .u32 pz] 82)).drew).heap[w.heap.size]? = some (.cells #[.int .i64 pa, .int .u32 pz] 82 (0, 0))) := by
    show _ = _
    rw [heapD, heapA, if_pos rfl]
  have HI7 := Lib.hid hi7
  clear hf henv h hw hft  hi7
  obtain ⟨tk, text, line, num⟩ := t
  simp only at *
  go_enter Tryz.func103, Tryz.ntmps103
  go_wp2_with fail
  refine wp_region_plan (fun w' => w'.cell? ⟨mb, 0, none⟩ = some (.pointer (some ⟨ub, 0, none⟩)) ∧ w'.cell? ⟨ub, 1, none⟩ = some (.map (some mpb)) ∧ w'.cell? ⟨sb, 2, none⟩ = some (.string text) ∧
        (Instr.lookup 48 (.map (some mpb)) (.string text) false).run Tryz.prog w' = .ok (.agg #[.int .i64 pa, .int .u32 pz]) w')
    [(0, true), (1, true), (2, true), (3, true), (4, true), (5, true), (6, true), (7, true), (8, true), (9, true), (10, true), (11, true), (12, true), (13, false), (14, false)] true (by kernel_rfl) (by kernel_rfl) (fun c a d v w h => by cases d <;> exact h) (hS0 _ (Ext.refl w).drew) ?_
  iterate 13 (refine ⟨_, ?_, rfl, Or.inl ⟨by rfl, ?_⟩, ?_⟩; rotate_left; (· intro w' hSw; (try dsimp only at hSw); go_simp; (try with_reducible rfl)); simp only [Act.put, List.setIfInBounds_toArray, List.set_cons_zero, List.set_cons_succ, List.getElem_toArray, List.getElem_cons_zero, List.getElem_cons_succ])
  refine wpPlan_act rfl (by rfl) (fun K hK => ?_)
  go_simp
  refine hK _ _ (fun _ => hS0 _ (((Ext.refl w).drew).alloc _)) ?_
  clear hK K
  try simp only [Act.put, List.setIfInBounds_toArray, List.set_cons_zero, List.set_cons_succ]
  refine wpPlan_act rfl (by rfl) (fun K hK => ?_)
  go_simp
  refine hK _ _ (fun h => absurd rfl h) ⟨rfl, ?_⟩
  clear hK K
  try simp only [Act.put, List.setIfInBounds_toArray, List.set_cons_zero, List.set_cons_succ]
  have k0 := (HFX.out.below.cell (p := ⟨sb, 0, none⟩) hsb).trans c0
  have HC0 := Lib.hid k0
  clear hS0 u1 c0 c2
  generalize hW : (w.alloc (.cells #[.int .i64 pa, .int .u32 pz] 82)).drew = W0 at *
  have HF0 := Lib.hid (GFr.refl base W0)
  have hbW : base ≤ W0.heap.size := HENV.out.hb
  clear hW hE0
  generalize w.heap.size = vbk at *
  try clear hmb hbs
  have hil := HW.out.tail i HI7.out
  have HIL := Lib.hid hil
  have hbi : i < bs.length := by rw [HBL.out]; exact hil
  have tc := (HM0.out.tailCell HB0.out HI7.out hbi rfl).1
  have HS2 : Hid (RES = S.jump 21 0 i) := by
    have hh := HS.out
    rw [HI7.out] at hh
    exact hh
  generalize hlb : bs.getD i 0 = lb at *
  have HLB := Lib.hid hlb
  clear hlb hil hbi HS
  go_wp2_with fail
  refine (jump_p 21 0 i _ _ HLB.out HM0.out HIL.out HG0.out.wf (by have := HG0.out.hi; omega)).mono ?_
  rintro e w1 ⟨rfl, h1, h2⟩
  have HM1 := Lib.hid h1
  have HF1 := Lib.hid (HF0.out.trans h2)
  have HG1 := Lib.hid (HG0.out.trans (gle_jump HG0.out.wf 21 0 i))
  clear h1 h2
  clear k0 tc
  go_wp2_with fail
  go_end0
  rw [HS2.out]
  exact ⟨rfl, _, HB0.out, HM1.out, HFX.out.trans HF1.out⟩

set_option maxRecDepth 100000 in
set_option maxHeartbeats 4000000 in
theorem stm8 {base mb ub N _lo hi : Nat} {L : Places} {bs : List Nat} {S : GSt} (t : Tok) (sb : Nat) (w : World) (hft : t.fit) (hsb : sb < base) (_ : hi ≤ base) (henv : GEnv w base ub N L) (h : MkAt w base mb ub bs S) (hw : S.wf) (i : Nat) (hi7 : S.head = some i) (hcell : w.heap[sb]? = some (.cells #[.int .i64 (8 : Nat), .int .i64 t.kind, .string t.text, .int .i64 t.line, .int .u32 t.num, .pointer none, .pointer none, .pointer none, .pointer none, .bool false] 150 (0, 0))) (hlen : S.out.length + 8 ≤ 100000000) :
    Calls Tryz.prog 103 #[.pointer (some ⟨mb, 0, none⟩), .pointer (some ⟨sb, 0, none⟩)] w (GenC w base mb ub bs (genS L (.stm 8 t .nil .nil .nil .nil false) S)) := by
  have hspec : genS L (.stm 8 t .nil .nil .nil .nil false) S = S.jump 21 0 (S.head.getD 0) := rfl
  have HS := Lib.hid hspec
  clear hspec
  generalize genS L (.stm 8 t .nil .nil .nil .nil false) S = RES at *
  have hcs := fun o => cell_of_heap (o := o) hcell
  have c0 := hcs 0
  have c2 := hcs 2
  simp only [List.getElem?_toArray, List.getElem?_cons_zero, List.getElem?_cons_succ] at c0 c2
  clear hcs hcell
  obtain ⟨mpb, u1, hm1, hub, hlook⟩ := henv.place t.text (Nat.le_trans hft.1 (by simp [maxLen]))
  have hpz := henv.lok.place t.text.data.toList
  have hpl : placeOf L t = (L t.text.data.toList).getD (0, 0) := rfl
  unfold lookV at hlook
  generalize (L t.text.data.toList).getD (0, 0) = PL at *
  obtain ⟨pa, pz⟩ := PL
  simp only at HS hlook hpz
  have hmb := h.size
  have hbs := henv.hb
  have hS0 : ∀ w', Ext w w' → w'.cell? ⟨mb, 0, none⟩ = some (.pointer (some ⟨ub, 0, none⟩)) ∧ w'.cell? ⟨ub, 1, none⟩ = some (.map (some mpb)) ∧ w'.cell? ⟨sb, 2, none⟩ = some (.string t.text) ∧
      (Instr.lookup 48 (.map (some mpb)) (.string t.text) false).run Tryz.prog w' = .ok (.agg #[.int .i64 pa, .int .u32 pz]) w' := fun w' hE =>
    ⟨(hE.cell _ _ hmb.2).trans h.cells.1, (hE.cell _ _ (by omega)).trans u1, (hE.cell _ _ (by omega)).trans c2, hlook w' (hE.belowB hbs)⟩
  clear hpl hlook
  have hE0 : Ext w ((w.alloc (.cells #[.int .i64 pa, .int .u32 pz] 82)).drew) := ((Ext.refl w).alloc _).drew
  have hf := GFr.of_ext hE0 hbs
  have HFX := Lib.hid hf
  have HENV := Lib.hid (henv.keep hf.below)
  have HM0 := Lib.hid (h.ext hE0)
  have HB0 := Lib.hid (List.prefix_refl bs)
  have HBL := Lib.hid h.len
  have HG0 := Lib.hid (GLe.refl hw)
  have HW := Lib.hid hw
  have HVB : Hid (((w.alloc (.cells #[.int .i64 pa, .int .u32 pz] 82)).drew).heap[w.heap.size]? = some (.cells #[.int .i64 pa, .int .u32 pz] 82 (0, 0))) := by
    show _ = _
    rw [heapD, heapA, if_pos rfl]
  have HI7 := Lib.hid hi7
  clear hf henv h hw hft  hi7
  obtain ⟨tk, text, line, num⟩ := t
  simp only at *
  go_enter Tryz.func103, Tryz.ntmps103
  go_wp2_with fail
  refine wp_region_plan (fun w' => w'.cell? ⟨mb, 0, none⟩ = some (.pointer (some ⟨ub, 0, none⟩)) ∧ w'.cell? ⟨ub, 1, none⟩ = some (.map (some mpb)) ∧ w'.cell? ⟨sb, 2, none⟩ = some (.string text) ∧
        (Instr.lookup 48 (.map (some mpb)) (.string text) false).run Tryz.prog w' = .ok (.agg #[.int .i64 pa, .int .u32 pz]) w')
    [(0, true), (1, true), (2, true), (3, true), (4, true), (5, true), (6, true), (7, true), (8, true), (9, true), (10, true), (11, true), (12, true), (13, false), (14, false)] true (by kernel_rfl) (by kernel_rfl) (fun c a d v w h => by cases d <;> exact h) (hS0 _ (Ext.refl w).drew) ?_
  iterate 13 (refine ⟨_, ?_, rfl, Or.inl ⟨by rfl, ?_⟩, ?_⟩; rotate_left; (· intro w' hSw; (try dsimp only at hSw); go_simp; (try with_reducible rfl)); simp only [Act.put, List.setIfInBounds_toArray, List.set_cons_zero, List.set_cons_succ, List.getElem_toArray, List.getElem_cons_zero, List.getElem_cons_succ])
  refine wpPlan_act rfl (by rfl) (fun K hK => ?_)
  go_simp
  refine hK _ _ (fun _ => hS0 _ (((Ext.refl w).drew).alloc _)) ?_
  clear hK K
  try simp only [Act.put, List.setIfInBounds_toArray, List.set_cons_zero, List.set_cons_succ]
  refine wpPlan_act rfl (by rfl) (fun K hK => ?_)
  go_simp
  refine hK _ _ (fun h => absurd rfl h) ⟨rfl, ?_⟩
  clear hK K
  try simp only [Act.put, List.setIfInBounds_toArray, List.set_cons_zero, List.set_cons_succ]
  have k0 := (HFX.out.below.cell (p := ⟨sb, 0, none⟩) hsb).trans c0
  have HC0 := Lib.hid k0
  clear hS0 u1 c0 c2
  generalize hW : (w.alloc (.cells #[.int .i64 pa, .int .u32 pz] 82)).drew = W0 at *
  have HF0 := Lib.hid (GFr.refl base W0)
  have hbW : base ≤ W0.heap.size := HENV.out.hb
  clear hW hE0
  generalize w.heap.size = vbk at *
  try clear hmb hbs
  have hil := HW.out.head i HI7.out
  have HIL := Lib.hid hil
  have hbi : i < bs.length := by rw [HBL.out]; exact hil
  have tc := (HM0.out.headCell HB0.out HI7.out hbi rfl).1
  have HS2 : Hid (RES = S.jump 21 0 i) := by
    have hh := HS.out
    rw [HI7.out] at hh
    exact hh
  generalize hlb : bs.getD i 0 = lb at *
  have HLB := Lib.hid hlb
  clear hlb hil hbi HS
  go_wp2_with fail
  refine (jump_p 21 0 i _ _ HLB.out HM0.out HIL.out HG0.out.wf (by have := HG0.out.hi; omega)).mono ?_
  rintro e w1 ⟨rfl, h1, h2⟩
  have HM1 := Lib.hid h1
  have HF1 := Lib.hid (HF0.out.trans h2)
  have HG1 := Lib.hid (HG0.out.trans (gle_jump HG0.out.wf 21 0 i))
  clear h1 h2
  clear k0 tc
  go_wp2_with fail
  go_end0
  rw [HS2.out]
  exact ⟨rfl, _, HB0.out, HM1.out, HFX.out.trans HF1.out⟩

set_option maxRecDepth 100000 in
set_option maxHeartbeats 4000000 in
theorem stm9 {base mb ub N lo hi : Nat} {L : Places} {bs : List Nat} {S : GSt} (t : Tok) (sb : Nat) (w : World) (hft : t.fit) (hsb : sb < base) (hhi : hi ≤ base) (henv : GEnv w base ub N L) (h : MkAt w base mb ub bs S) (hw : S.wf) (loops ln bb : Nat) (lb : Ast) (vlb : Value) (hB : ListG base mb ub N L lb) (hbb : bb < base) (cb : w.cell? ⟨bb, 1, none⟩ = some vlb) (hokb : lb.okS) (hlb : lb.isL) (hcb : chkF L lb loops = none) (hht : 0 < loops → S.head.isSome = true ∧ S.tail.isSome = true) (hab : AstAt w lo hi lb vlb) (hcell : w.heap[sb]? = some (.cells #[.int .i64 (9 : Nat), .int .i64 t.kind, .string t.text, .int .i64 t.line, .int .u32 t.num, .pointer none, .pointer none, .pointer (some ⟨bb, 0, none⟩), .pointer none, .bool false] 150 (0, 0))) (hlen : S.out.length + 8 * lb.sz + 8 ≤ 100000000) (hsz : lb.sz ≤ 1000000) :
    Calls Tryz.prog 103 #[.pointer (some ⟨mb, 0, none⟩), .pointer (some ⟨sb, 0, none⟩)] w (GenC w base mb ub bs (genS L (.stm 9 t .nil .nil (.blk ln lb) .nil false) S)) := by
  have hspec : genS L (.stm 9 t .nil .nil (.blk ln lb) .nil false) S = genS L lb (S.put 1 0 0 0) := rfl
  have HS := Lib.hid hspec
  clear hspec
  generalize genS L (.stm 9 t .nil .nil (.blk ln lb) .nil false) S = RES at *
  have hcs := fun o => cell_of_heap (o := o) hcell
  have c0 := hcs 0
  have c2 := hcs 2
  have c7 := hcs 7
  simp only [List.getElem?_toArray, List.getElem?_cons_zero, List.getElem?_cons_succ] at c0 c2 c7
  clear hcs hcell
  obtain ⟨mpb, u1, hm1, hub, hlook⟩ := henv.place t.text (Nat.le_trans hft.1 (by simp [maxLen]))
  have hpz := henv.lok.place t.text.data.toList
  have hpl : placeOf L t = (L t.text.data.toList).getD (0, 0) := rfl
  unfold lookV at hlook
  generalize (L t.text.data.toList).getD (0, 0) = PL at *
  obtain ⟨pa, pz⟩ := PL
  simp only at HS hlook hpz
  have hmb := h.size
  have hbs := henv.hb
  have hS0 : ∀ w', Ext w w' → w'.cell? ⟨mb, 0, none⟩ = some (.pointer (some ⟨ub, 0, none⟩)) ∧ w'.cell? ⟨ub, 1, none⟩ = some (.map (some mpb)) ∧ w'.cell? ⟨sb, 2, none⟩ = some (.string t.text) ∧
      (Instr.lookup 48 (.map (some mpb)) (.string t.text) false).run Tryz.prog w' = .ok (.agg #[.int .i64 pa, .int .u32 pz]) w' := fun w' hE =>
    ⟨(hE.cell _ _ hmb.2).trans h.cells.1, (hE.cell _ _ (by omega)).trans u1, (hE.cell _ _ (by omega)).trans c2, hlook w' (hE.belowB hbs)⟩
  clear hpl hlook
  have hE0 : Ext w ((w.alloc (.cells #[.int .i64 pa, .int .u32 pz] 82)).drew) := ((Ext.refl w).alloc _).drew
  have hf := GFr.of_ext hE0 hbs
  have HFX := Lib.hid hf
  have HENV := Lib.hid (henv.keep hf.below)
  have HM0 := Lib.hid (h.ext hE0)
  have HB0 := Lib.hid (List.prefix_refl bs)
  have HBL := Lib.hid h.len
  have HG0 := Lib.hid (GLe.refl hw)
  have HW := Lib.hid hw
  have HVB : Hid (((w.alloc (.cells #[.int .i64 pa, .int .u32 pz] 82)).drew).heap[w.heap.size]? = some (.cells #[.int .i64 pa, .int .u32 pz] 82 (0, 0))) := by
    show _ = _
    rw [heapD, heapA, if_pos rfl]
  have HC7 : Hid (((w.alloc (.cells #[.int .i64 pa, .int .u32 pz] 82)).drew).cell? ⟨sb, 7, none⟩ = some (.pointer (some ⟨bb, 0, none⟩))) := (hf.below.cell (p := ⟨sb, 7, none⟩) hsb).trans c7
  have HBLS := Lib.hid hB
  have HOB := Lib.hid hokb
  have HLB := Lib.hid hlb
  have HCB := Lib.hid hcb
  have HHT := Lib.hid hht
  have HAB := Lib.hid (ast_below hf.below hhi hab)
  have HC1 : Hid (((w.alloc (.cells #[.int .i64 pa, .int .u32 pz] 82)).drew).cell? ⟨bb, 1, none⟩ = some vlb) := (hf.below.cell (p := ⟨bb, 1, none⟩) hbb).trans cb
  clear hf henv h hw hft c7 hB hokb hlb hcb hht hab cb
  obtain ⟨tk, text, line, num⟩ := t
  simp only at *
  go_enter Tryz.func103, Tryz.ntmps103
  go_wp2_with fail
  refine wp_region_plan (fun w' => w'.cell? ⟨mb, 0, none⟩ = some (.pointer (some ⟨ub, 0, none⟩)) ∧ w'.cell? ⟨ub, 1, none⟩ = some (.map (some mpb)) ∧ w'.cell? ⟨sb, 2, none⟩ = some (.string text) ∧
        (Instr.lookup 48 (.map (some mpb)) (.string text) false).run Tryz.prog w' = .ok (.agg #[.int .i64 pa, .int .u32 pz]) w')
    [(0, true), (1, true), (2, true), (3, true), (4, true), (5, true), (6, true), (7, true), (8, true), (9, true), (10, true), (11, true), (12, true), (13, false), (14, false)] true (by kernel_rfl) (by kernel_rfl) (fun c a d v w h => by cases d <;> exact h) (hS0 _ (Ext.refl w).drew) ?_
  iterate 13 (refine ⟨_, ?_, rfl, Or.inl ⟨by rfl, ?_⟩, ?_⟩; rotate_left; (· intro w' hSw; (try dsimp only at hSw); go_simp; (try with_reducible rfl)); simp only [Act.put, List.setIfInBounds_toArray, List.set_cons_zero, List.set_cons_succ, List.getElem_toArray, List.getElem_cons_zero, List.getElem_cons_succ])
  refine wpPlan_act rfl (by rfl) (fun K hK => ?_)
  go_simp
  refine hK _ _ (fun _ => hS0 _ (((Ext.refl w).drew).alloc _)) ?_
  clear hK K
  try simp only [Act.put, List.setIfInBounds_toArray, List.set_cons_zero, List.set_cons_succ]
  refine wpPlan_act rfl (by rfl) (fun K hK => ?_)
  go_simp
  refine hK _ _ (fun h => absurd rfl h) ⟨rfl, ?_⟩
  clear hK K
  try simp only [Act.put, List.setIfInBounds_toArray, List.set_cons_zero, List.set_cons_succ]
  have k0 := (HFX.out.below.cell (p := ⟨sb, 0, none⟩) hsb).trans c0
  have HC0 := Lib.hid k0
  clear hS0 u1 c0 c2
  generalize hW : (w.alloc (.cells #[.int .i64 pa, .int .u32 pz] 82)).drew = W0 at *
  have HF0 := Lib.hid (GFr.refl base W0)
  have hbW : base ≤ W0.heap.size := HENV.out.hb
  clear hW hE0
  generalize w.heap.size = vbk at *
  try clear hmb hbs
  go_wp2_with fail
  refine (put_any 1 0 0 0 _ HM0.out (by have := HG0.out.hi; omega)).mono ?_
  rintro e w1 ⟨rfl, h1, h2⟩
  have HM1 := Lib.hid h1
  have HF1 := Lib.hid (HF0.out.trans h2)
  have HG1 := Lib.hid (HG0.out.trans (gle_put HG0.out.wf 1 0 0 0))
  clear h1 h2
  clear k0
  have k7_1 : w1.cell? ⟨sb, 7, none⟩ = some (.pointer (some ⟨bb, 0, none⟩)) := (HF1.out.below.cell (p := ⟨sb, 7, none⟩) hsb).trans HC7.out
  have k1_1 : w1.cell? ⟨bb, 1, none⟩ = some (vlb) := (HF1.out.below.cell (p := ⟨bb, 1, none⟩) hbb).trans HC1.out
  go_wp2_with fail
  refine (HBLS.out loops vlb _ bs _ lo hi HOB.out HLB.out HCB.out (fun h0 => by exact HHT.out h0) (ast_below HF1.out.below hhi HAB.out) hhi (HENV.out.keep HF1.out.below) HM1.out HG1.out.wf (by have := HG1.out.hi; omega) (by omega)).mono ?_
  rintro e w2 ⟨rfl, bs1, hpx, h1, h2⟩
  have HB1 := Lib.hid (HB0.out.trans hpx)
  clear hpx
  have HM2 := Lib.hid h1
  have HF2 := Lib.hid (HF1.out.trans h2)
  have HG2 := Lib.hid (HG1.out.trans (gle_genS L lb _ HG1.out.wf))
  clear h1 h2
  clear k7_1 k1_1
  go_wp2_with fail
  go_end0
  rw [HS.out]
  exact ⟨rfl, _, HB1.out, HM2.out, HFX.out.trans HF2.out⟩

set_option maxRecDepth 100000 in
set_option maxHeartbeats 4000000 in
theorem stm2a {base mb ub N lo hi : Nat} {L : Places} {bs : List Nat} {S : GSt} (t : Tok) (sb : Nat) (w : World) (hft : t.fit) (hsb : sb < base) (hhi : hi ≤ base) (henv : GEnv w base ub N L) (h : MkAt w base mb ub bs S) (hw : S.wf) (loops ln bb : Nat) (e lb : Ast) (ve vlb : Value) (hE1 : ExpC base mb ub N L e) (hB : ListG base mb ub N L lb) (hbb : bb < base) (cb : w.cell? ⟨bb, 1, none⟩ = some vlb) (hoe1 : e.okE) (hokb : lb.okS) (hlb : lb.isL) (hcb : chkF L lb loops = none) (hht : 0 < loops → S.head.isSome = true ∧ S.tail.isSome = true) (hae1 : AstAt w lo hi e ve) (hab : AstAt w lo hi lb vlb)  (hcell : w.heap[sb]? = some (.cells #[.int .i64 (2 : Nat), .int .i64 t.kind, .string t.text, .int .i64 t.line, .int .u32 t.num, ve, .pointer none, .pointer (some ⟨bb, 0, none⟩), .pointer none, .bool false] 150 (0, 0))) (hlen : S.out.length + 8 * e.sz + 8 * lb.sz + 8 ≤ 100000000) (hsz : e.sz + lb.sz ≤ 1000000) :
    Calls Tryz.prog 103 #[.pointer (some ⟨mb, 0, none⟩), .pointer (some ⟨sb, 0, none⟩)] w (GenC w base mb ub bs (genS L (.stm 2 t e .nil (.blk ln lb) .nil false) S)) := by
  have hspec : genS L (.stm 2 t e .nil (.blk ln lb) .nil false) S = choiceF (genE L e 0) (genS L lb) none S := rfl
  have HS := Lib.hid hspec
  clear hspec
  generalize genS L (.stm 2 t e .nil (.blk ln lb) .nil false) S = RES at *
  have hcs := fun o => cell_of_heap (o := o) hcell
  have c0 := hcs 0
  have c2 := hcs 2
  have c5 := hcs 5
  have c7 := hcs 7
  have c8 := hcs 8
  simp only [List.getElem?_toArray, List.getElem?_cons_zero, List.getElem?_cons_succ] at c0 c2 c5 c7 c8
  clear hcs hcell
  obtain ⟨mpb, u1, hm1, hub, hlook⟩ := henv.place t.text (Nat.le_trans hft.1 (by simp [maxLen]))
  have hpz := henv.lok.place t.text.data.toList
  have hpl : placeOf L t = (L t.text.data.toList).getD (0, 0) := rfl
  unfold lookV at hlook
  generalize (L t.text.data.toList).getD (0, 0) = PL at *
  obtain ⟨pa, pz⟩ := PL
  simp only at HS hlook hpz
  have hmb := h.size
  have hbs := henv.hb
  have hS0 : ∀ w', Ext w w' → w'.cell? ⟨mb, 0, none⟩ = some (.pointer (some ⟨ub, 0, none⟩)) ∧ w'.cell? ⟨ub, 1, none⟩ = some (.map (some mpb)) ∧ w'.cell? ⟨sb, 2, none⟩ = some (.string t.text) ∧
      (Instr.lookup 48 (.map (some mpb)) (.string t.text) false).run Tryz.prog w' = .ok (.agg #[.int .i64 pa, .int .u32 pz]) w' := fun w' hE =>
    ⟨(hE.cell _ _ hmb.2).trans h.cells.1, (hE.cell _ _ (by omega)).trans u1, (hE.cell _ _ (by omega)).trans c2, hlook w' (hE.belowB hbs)⟩
  clear hpl hlook
  have hE0 : Ext w ((w.alloc (.cells #[.int .i64 pa, .int .u32 pz] 82)).drew) := ((Ext.refl w).alloc _).drew
  have hf := GFr.of_ext hE0 hbs
  have HFX := Lib.hid hf
  have HENV := Lib.hid (henv.keep hf.below)
  have HM0 := Lib.hid (h.ext hE0)
  have HB0 := Lib.hid (List.prefix_refl bs)
  have HBL := Lib.hid h.len
  have HG0 := Lib.hid (GLe.refl hw)
  have HW := Lib.hid hw
  have HVB : Hid (((w.alloc (.cells #[.int .i64 pa, .int .u32 pz] 82)).drew).heap[w.heap.size]? = some (.cells #[.int .i64 pa, .int .u32 pz] 82 (0, 0))) := by
    show _ = _
    rw [heapD, heapA, if_pos rfl]
  have HC5 : Hid (((w.alloc (.cells #[.int .i64 pa, .int .u32 pz] 82)).drew).cell? ⟨sb, 5, none⟩ = some (ve)) := (hf.below.cell (p := ⟨sb, 5, none⟩) hsb).trans c5
  have HC7 : Hid (((w.alloc (.cells #[.int .i64 pa, .int .u32 pz] 82)).drew).cell? ⟨sb, 7, none⟩ = some (.pointer (some ⟨bb, 0, none⟩))) := (hf.below.cell (p := ⟨sb, 7, none⟩) hsb).trans c7
  have HC8 : Hid (((w.alloc (.cells #[.int .i64 pa, .int .u32 pz] 82)).drew).cell? ⟨sb, 8, none⟩ = some (.pointer none)) := (hf.below.cell (p := ⟨sb, 8, none⟩) hsb).trans c8
  have hcall := choice_only loops sb bb e lb ve vlb _ hE1 hB hsb hbb ((hf.below.cell (p := ⟨sb, 5, none⟩) hsb).trans c5) ((hf.below.cell (p := ⟨sb, 7, none⟩) hsb).trans c7) ((hf.below.cell (p := ⟨bb, 1, none⟩) hbb).trans cb) hoe1 hokb hlb hcb hht (ast_below hf.below hhi hae1) (ast_below hf.below hhi hab) ((hf.below.cell (p := ⟨sb, 8, none⟩) hsb).trans c8) hhi (henv.keep hf.below) (h.ext hE0) hw (by omega) (by omega)
  have HCALL := Lib.hid hcall
  clear hcall
  clear hf henv h hw hft c5 c7 c8 hE1 hB hoe1 hokb hlb hcb hae1 hab cb hht
  obtain ⟨tk, text, line, num⟩ := t
  simp only at *
  go_enter Tryz.func103, Tryz.ntmps103
  go_wp2_with fail
  refine wp_region_plan (fun w' => w'.cell? ⟨mb, 0, none⟩ = some (.pointer (some ⟨ub, 0, none⟩)) ∧ w'.cell? ⟨ub, 1, none⟩ = some (.map (some mpb)) ∧ w'.cell? ⟨sb, 2, none⟩ = some (.string text) ∧
        (Instr.lookup 48 (.map (some mpb)) (.string text) false).run Tryz.prog w' = .ok (.agg #[.int .i64 pa, .int .u32 pz]) w')
    [(0, true), (1, true), (2, true), (3, true), (4, true), (5, true), (6, true), (7, true), (8, true), (9, true), (10, true), (11, true), (12, true), (13, false), (14, false)] true (by kernel_rfl) (by kernel_rfl) (fun c a d v w h => by cases d <;> exact h) (hS0 _ (Ext.refl w).drew) ?_
  iterate 13 (refine ⟨_, ?_, rfl, Or.inl ⟨by rfl, ?_⟩, ?_⟩; rotate_left; (· intro w' hSw; (try dsimp only at hSw); go_simp; (try with_reducible rfl)); simp only [Act.put, List.setIfInBounds_toArray, List.set_cons_zero, List.set_cons_succ, List.getElem_toArray, List.getElem_cons_zero, List.getElem_cons_succ])
  refine wpPlan_act rfl (by rfl) (fun K hK => ?_)
  go_simp
  refine hK _ _ (fun _ => hS0 _ (((Ext.refl w).drew).alloc _)) ?_
  clear hK K
  try simp only [Act.put, List.setIfInBounds_toArray, List.set_cons_zero, List.set_cons_succ]
  refine wpPlan_act rfl (by rfl) (fun K hK => ?_)
  go_simp
  refine hK _ _ (fun h => absurd rfl h) ⟨rfl, ?_⟩
  clear hK K
  try simp only [Act.put, List.setIfInBounds_toArray, List.set_cons_zero, List.set_cons_succ]
  have k0 := (HFX.out.below.cell (p := ⟨sb, 0, none⟩) hsb).trans c0
  have HC0 := Lib.hid k0
  clear hS0 u1 c0 c2
  generalize hW : (w.alloc (.cells #[.int .i64 pa, .int .u32 pz] 82)).drew = W0 at *
  have HF0 := Lib.hid (GFr.refl base W0)
  have hbW : base ≤ W0.heap.size := HENV.out.hb
  clear hW hE0
  generalize w.heap.size = vbk at *
  try clear hmb hbs
  go_wp2_with fail
  refine HCALL.out.mono ?_
  rintro e w1 ⟨rfl, b1, hpx, h1, h2⟩
  have HM1 := Lib.hid h1
  have HF1 := Lib.hid (HFX.out.trans h2)
  have HB1 := Lib.hid hpx
  clear h1 h2 hpx k0
  go_wp2_with fail
  go_end0
  rw [HS.out]
  exact ⟨rfl, _, HB1.out, HM1.out, HF1.out⟩

set_option maxRecDepth 100000 in
set_option maxHeartbeats 4000000 in
theorem stm2b {base mb ub N lo hi : Nat} {L : Places} {bs : List Nat} {S : GSt} (t : Tok) (sb : Nat) (w : World) (hft : t.fit) (hsb : sb < base) (hhi : hi ≤ base) (henv : GEnv w base ub N L) (h : MkAt w base mb ub bs S) (hw : S.wf) (link : Bool) (loops ln bb : Nat) (e lb : Ast) (ve vlb : Value) (hE1 : ExpC base mb ub N L e) (hB : ListG base mb ub N L lb) (hbb : bb < base) (cb : w.cell? ⟨bb, 1, none⟩ = some vlb) (hoe1 : e.okE) (hokb : lb.okS) (hlb : lb.isL) (hcb : chkF L lb loops = none) (hht : 0 < loops → S.head.isSome = true ∧ S.tail.isSome = true) (hae1 : AstAt w lo hi e ve) (hab : AstAt w lo hi lb vlb) (lr : Ast) (lnr rb : Nat) (vlr : Value) (hR : ListG base mb ub N L lr) (hrb : rb < base) (cr : w.cell? ⟨rb, 1, none⟩ = some vlr) (hokr : lr.okS) (hlr : lr.isL) (hcr : chkF L lr loops = none) (har : AstAt w lo hi lr vlr) (hcell : w.heap[sb]? = some (.cells #[.int .i64 (2 : Nat), .int .i64 t.kind, .string t.text, .int .i64 t.line, .int .u32 t.num, ve, .pointer none, .pointer (some ⟨bb, 0, none⟩), .pointer (some ⟨rb, 0, none⟩), .bool link] 150 (0, 0))) (hlen : S.out.length + 8 * e.sz + 8 * lb.sz + 8 * lr.sz + 8 ≤ 100000000) (hsz : e.sz + lb.sz + lr.sz ≤ 1000000) :
    Calls Tryz.prog 103 #[.pointer (some ⟨mb, 0, none⟩), .pointer (some ⟨sb, 0, none⟩)] w (GenC w base mb ub bs (genS L (.stm 2 t e .nil (.blk ln lb) (.blk lnr lr) link) S)) := by
  have hspec : genS L (.stm 2 t e .nil (.blk ln lb) (.blk lnr lr) link) S = choiceF (genE L e 0) (genS L lb) (some (genS L lr)) S := rfl
  have HS := Lib.hid hspec
  clear hspec
  generalize genS L (.stm 2 t e .nil (.blk ln lb) (.blk lnr lr) link) S = RES at *
  have hcs := fun o => cell_of_heap (o := o) hcell
  have c0 := hcs 0
  have c2 := hcs 2
  have c5 := hcs 5
  have c7 := hcs 7
  have c8 := hcs 8
  simp only [List.getElem?_toArray, List.getElem?_cons_zero, List.getElem?_cons_succ] at c0 c2 c5 c7 c8
  clear hcs hcell
  obtain ⟨mpb, u1, hm1, hub, hlook⟩ := henv.place t.text (Nat.le_trans hft.1 (by simp [maxLen]))
  have hpz := henv.lok.place t.text.data.toList
  have hpl : placeOf L t = (L t.text.data.toList).getD (0, 0) := rfl
  unfold lookV at hlook
  generalize (L t.text.data.toList).getD (0, 0) = PL at *
  obtain ⟨pa, pz⟩ := PL
  simp only at HS hlook hpz
  have hmb := h.size
  have hbs := henv.hb
  have hS0 : ∀ w', Ext w w' → w'.cell? ⟨mb, 0, none⟩ = some (.pointer (some ⟨ub, 0, none⟩)) ∧ w'.cell? ⟨ub, 1, none⟩ = some (.map (some mpb)) ∧ w'.cell? ⟨sb, 2, none⟩ = some (.string t.text) ∧
      (Instr.lookup 48 (.map (some mpb)) (.string t.text) false).run Tryz.prog w' = .ok (.agg #[.int .i64 pa, .int .u32 pz]) w' := fun w' hE =>
    ⟨(hE.cell _ _ hmb.2).trans h.cells.1, (hE.cell _ _ (by omega)).trans u1, (hE.cell _ _ (by omega)).trans c2, hlook w' (hE.belowB hbs)⟩
  clear hpl hlook
  have hE0 : Ext w ((w.alloc (.cells #[.int .i64 pa, .int .u32 pz] 82)).drew) := ((Ext.refl w).alloc _).drew
  have hf := GFr.of_ext hE0 hbs
  have HFX := Lib.hid hf
  have HENV := Lib.hid (henv.keep hf.below)
  have HM0 := Lib.hid (h.ext hE0)
  have HB0 := Lib.hid (List.prefix_refl bs)
  have HBL := Lib.hid h.len
  have HG0 := Lib.hid (GLe.refl hw)
  have HW := Lib.hid hw
  have HVB : Hid (((w.alloc (.cells #[.int .i64 pa, .int .u32 pz] 82)).drew).heap[w.heap.size]? = some (.cells #[.int .i64 pa, .int .u32 pz] 82 (0, 0))) := by
    show _ = _
    rw [heapD, heapA, if_pos rfl]
  have HC5 : Hid (((w.alloc (.cells #[.int .i64 pa, .int .u32 pz] 82)).drew).cell? ⟨sb, 5, none⟩ = some (ve)) := (hf.below.cell (p := ⟨sb, 5, none⟩) hsb).trans c5
  have HC7 : Hid (((w.alloc (.cells #[.int .i64 pa, .int .u32 pz] 82)).drew).cell? ⟨sb, 7, none⟩ = some (.pointer (some ⟨bb, 0, none⟩))) := (hf.below.cell (p := ⟨sb, 7, none⟩) hsb).trans c7
  have HC8 : Hid (((w.alloc (.cells #[.int .i64 pa, .int .u32 pz] 82)).drew).cell? ⟨sb, 8, none⟩ = some (.pointer (some ⟨rb, 0, none⟩))) := (hf.below.cell (p := ⟨sb, 8, none⟩) hsb).trans c8
  have hcall := choice_else loops sb bb e lb ve vlb _ hE1 hB hsb hbb ((hf.below.cell (p := ⟨sb, 5, none⟩) hsb).trans c5) ((hf.below.cell (p := ⟨sb, 7, none⟩) hsb).trans c7) ((hf.below.cell (p := ⟨bb, 1, none⟩) hbb).trans cb) hoe1 hokb hlb hcb hht (ast_below hf.below hhi hae1) (ast_below hf.below hhi hab) lr lnr rb vlr hR hrb ((hf.below.cell (p := ⟨sb, 8, none⟩) hsb).trans c8) ((hf.below.cell (p := ⟨rb, 1, none⟩) hrb).trans cr) hokr hlr hcr (ast_below hf.below hhi har) hhi (henv.keep hf.below) (h.ext hE0) hw (by omega) (by omega)
  have HCALL := Lib.hid hcall
  clear hcall
  clear hf henv h hw hft c5 c7 c8 hE1 hB hoe1 hokb hlb hcb hae1 hab cb hht hR hokr hlr hcr har cr
  obtain ⟨tk, text, line, num⟩ := t
  simp only at *
  go_enter Tryz.func103, Tryz.ntmps103
  go_wp2_with fail
  refine wp_region_plan (fun w' => w'.cell? ⟨mb, 0, none⟩ = some (.pointer (some ⟨ub, 0, none⟩)) ∧ w'.cell? ⟨ub, 1, none⟩ = some (.map (some mpb)) ∧ w'.cell? ⟨sb, 2, none⟩ = some (.string text) ∧
        (Instr.lookup 48 (.map (some mpb)) (.string text) false).run Tryz.prog w' = .ok (.agg #[.int .i64 pa, .int .u32 pz]) w')
    [(0, true), (1, true), (2, true), (3, true), (4, true), (5, true), (6, true), (7, true), (8, true), (9, true), (10, true), (11, true), (12, true), (13, false), (14, false)] true (by kernel_rfl) (by kernel_rfl) (fun c a d v w h => by cases d <;> exact h) (hS0 _ (Ext.refl w).drew) ?_
  iterate 13 (refine ⟨_, ?_, rfl, Or.inl ⟨by rfl, ?_⟩, ?_⟩; rotate_left; (· intro w' hSw; (try dsimp only at hSw); go_simp; (try with_reducible rfl)); simp only [Act.put, List.setIfInBounds_toArray, List.set_cons_zero, List.set_cons_succ, List.getElem_toArray, List.getElem_cons_zero, List.getElem_cons_succ])
  refine wpPlan_act rfl (by rfl) (fun K hK => ?_)
  go_simp
  refine hK _ _ (fun _ => hS0 _ (((Ext.refl w).drew).alloc _)) ?_
  clear hK K
  try simp only [Act.put, List.setIfInBounds_toArray, List.set_cons_zero, List.set_cons_succ]
  refine wpPlan_act rfl (by rfl) (fun K hK => ?_)
  go_simp
  refine hK _ _ (fun h => absurd rfl h) ⟨rfl, ?_⟩
  clear hK K
  try simp only [Act.put, List.setIfInBounds_toArray, List.set_cons_zero, List.set_cons_succ]
  have k0 := (HFX.out.below.cell (p := ⟨sb, 0, none⟩) hsb).trans c0
  have HC0 := Lib.hid k0
  clear hS0 u1 c0 c2
  generalize hW : (w.alloc (.cells #[.int .i64 pa, .int .u32 pz] 82)).drew = W0 at *
  have HF0 := Lib.hid (GFr.refl base W0)
  have hbW : base ≤ W0.heap.size := HENV.out.hb
  clear hW hE0
  generalize w.heap.size = vbk at *
  try clear hmb hbs
  go_wp2_with fail
  refine HCALL.out.mono ?_
  rintro e w1 ⟨rfl, b1, hpx, h1, h2⟩
  have HM1 := Lib.hid h1
  have HF1 := Lib.hid (HFX.out.trans h2)
  have HB1 := Lib.hid hpx
  clear h1 h2 hpx k0
  go_wp2_with fail
  go_end0
  rw [HS.out]
  exact ⟨rfl, _, HB1.out, HM1.out, HF1.out⟩

set_option maxRecDepth 100000 in
set_option maxHeartbeats 4000000 in
theorem stm3 {base mb ub N lo hi : Nat} {L : Places} {bs : List Nat} {S : GSt} (t : Tok) (sb : Nat) (w : World) (hft : t.fit) (hsb : sb < base) (hhi : hi ≤ base) (henv : GEnv w base ub N L) (h : MkAt w base mb ub bs S) (hw : S.wf) (loops ln bb : Nat) (e lb : Ast) (ve vlb : Value) (hE1 : ExpC base mb ub N L e) (hB : ListG base mb ub N L lb) (hbb : bb < base) (cb : w.cell? ⟨bb, 1, none⟩ = some vlb) (hoe1 : e.okE) (hokb : lb.okS) (hlb : lb.isL) (hcb : chkF L lb (loops + 1) = none) (hae1 : AstAt w lo hi e ve) (hab : AstAt w lo hi lb vlb)  (hcell : w.heap[sb]? = some (.cells #[.int .i64 (3 : Nat), .int .i64 t.kind, .string t.text, .int .i64 t.line, .int .u32 t.num, ve, .pointer none, .pointer (some ⟨bb, 0, none⟩), .pointer none, .bool false] 150 (0, 0))) (hlen : S.out.length + 8 * e.sz + 8 * lb.sz + 8 ≤ 100000000) (hsz : e.sz + lb.sz ≤ 1000000) :
    Calls Tryz.prog 103 #[.pointer (some ⟨mb, 0, none⟩), .pointer (some ⟨sb, 0, none⟩)] w (GenC w base mb ub bs (genS L (.stm 3 t e .nil (.blk ln lb) .nil false) S)) := by
  have hspec : genS L (.stm 3 t e .nil (.blk ln lb) .nil false) S = loopF (genE L e 0) (genS L lb) S := rfl
  have HS := Lib.hid hspec
  clear hspec
  generalize genS L (.stm 3 t e .nil (.blk ln lb) .nil false) S = RES at *
  have hcs := fun o => cell_of_heap (o := o) hcell
  have c0 := hcs 0
  have c2 := hcs 2
  have c5 := hcs 5
  have c7 := hcs 7
  have c8 := hcs 8
  simp only [List.getElem?_toArray, List.getElem?_cons_zero, List.getElem?_cons_succ] at c0 c2 c5 c7 c8
  clear hcs hcell
  obtain ⟨mpb, u1, hm1, hub, hlook⟩ := henv.place t.text (Nat.le_trans hft.1 (by simp [maxLen]))
  have hpz := henv.lok.place t.text.data.toList
  have hpl : placeOf L t = (L t.text.data.toList).getD (0, 0) := rfl
  unfold lookV at hlook
  generalize (L t.text.data.toList).getD (0, 0) = PL at *
  obtain ⟨pa, pz⟩ := PL
  simp only at HS hlook hpz
  have hmb := h.size
  have hbs := henv.hb
  have hS0 : ∀ w', Ext w w' → w'.cell? ⟨mb, 0, none⟩ = some (.pointer (some ⟨ub, 0, none⟩)) ∧ w'.cell? ⟨ub, 1, none⟩ = some (.map (some mpb)) ∧ w'.cell? ⟨sb, 2, none⟩ = some (.string t.text) ∧
      (Instr.lookup 48 (.map (some mpb)) (.string t.text) false).run Tryz.prog w' = .ok (.agg #[.int .i64 pa, .int .u32 pz]) w' := fun w' hE =>
    ⟨(hE.cell _ _ hmb.2).trans h.cells.1, (hE.cell _ _ (by omega)).trans u1, (hE.cell _ _ (by omega)).trans c2, hlook w' (hE.belowB hbs)⟩
  clear hpl hlook
  have hE0 : Ext w ((w.alloc (.cells #[.int .i64 pa, .int .u32 pz] 82)).drew) := ((Ext.refl w).alloc _).drew
  have hf := GFr.of_ext hE0 hbs
  have HFX := Lib.hid hf
  have HENV := Lib.hid (henv.keep hf.below)
  have HM0 := Lib.hid (h.ext hE0)
  have HB0 := Lib.hid (List.prefix_refl bs)
  have HBL := Lib.hid h.len
  have HG0 := Lib.hid (GLe.refl hw)
  have HW := Lib.hid hw
  have HVB : Hid (((w.alloc (.cells #[.int .i64 pa, .int .u32 pz] 82)).drew).heap[w.heap.size]? = some (.cells #[.int .i64 pa, .int .u32 pz] 82 (0, 0))) := by
    show _ = _
    rw [heapD, heapA, if_pos rfl]
  have HC5 : Hid (((w.alloc (.cells #[.int .i64 pa, .int .u32 pz] 82)).drew).cell? ⟨sb, 5, none⟩ = some (ve)) := (hf.below.cell (p := ⟨sb, 5, none⟩) hsb).trans c5
  have HC7 : Hid (((w.alloc (.cells #[.int .i64 pa, .int .u32 pz] 82)).drew).cell? ⟨sb, 7, none⟩ = some (.pointer (some ⟨bb, 0, none⟩))) := (hf.below.cell (p := ⟨sb, 7, none⟩) hsb).trans c7
  have HC8 : Hid (((w.alloc (.cells #[.int .i64 pa, .int .u32 pz] 82)).drew).cell? ⟨sb, 8, none⟩ = some (.pointer none)) := (hf.below.cell (p := ⟨sb, 8, none⟩) hsb).trans c8
  have hcall := loop_any loops sb bb e lb ve vlb _ hE1 hB hsb hbb ((hf.below.cell (p := ⟨sb, 5, none⟩) hsb).trans c5) ((hf.below.cell (p := ⟨sb, 7, none⟩) hsb).trans c7) ((hf.below.cell (p := ⟨bb, 1, none⟩) hbb).trans cb) hoe1 hokb hlb hcb (ast_below hf.below hhi hae1) (ast_below hf.below hhi hab) hhi (henv.keep hf.below) (h.ext hE0) hw (by omega) (by omega)
  have HCALL := Lib.hid hcall
  clear hcall
  clear hf henv h hw hft c5 c7 c8 hE1 hB hoe1 hokb hlb hcb hae1 hab cb
  obtain ⟨tk, text, line, num⟩ := t
  simp only at *
  go_enter Tryz.func103, Tryz.ntmps103
  go_wp2_with fail
  refine wp_region_plan (fun w' => w'.cell? ⟨mb, 0, none⟩ = some (.pointer (some ⟨ub, 0, none⟩)) ∧ w'.cell? ⟨ub, 1, none⟩ = some (.map (some mpb)) ∧ w'.cell? ⟨sb, 2, none⟩ = some (.string text) ∧
        (Instr.lookup 48 (.map (some mpb)) (.string text) false).run Tryz.prog w' = .ok (.agg #[.int .i64 pa, .int .u32 pz]) w')
    [(0, true), (1, true), (2, true), (3, true), (4, true), (5, true), (6, true), (7, true), (8, true), (9, true), (10, true), (11, true), (12, true), (13, false), (14, false)] true (by kernel_rfl) (by kernel_rfl) (fun c a d v w h => by cases d <;> exact h) (hS0 _ (Ext.refl w).drew) ?_
  iterate 13 (refine ⟨_, ?_, rfl, Or.inl ⟨by rfl, ?_⟩, ?_⟩; rotate_left; (· intro w' hSw; (try dsimp only at hSw); go_simp; (try with_reducible rfl)); simp only [Act.put, List.setIfInBounds_toArray, List.set_cons_zero, List.set_cons_succ, List.getElem_toArray, List.getElem_cons_zero, List.getElem_cons_succ])
  refine wpPlan_act rfl (by rfl) (fun K hK => ?_)
  go_simp
  refine hK _ _ (fun _ => hS0 _ (((Ext.refl w).drew).alloc _)) ?_
  clear hK K
  try simp only [Act.put, List.setIfInBounds_toArray, List.set_cons_zero, List.set_cons_succ]
  refine wpPlan_act rfl (by rfl) (fun K hK => ?_)
  go_simp
  refine hK _ _ (fun h => absurd rfl h) ⟨rfl, ?_⟩
  clear hK K
  try simp only [Act.put, List.setIfInBounds_toArray, List.set_cons_zero, List.set_cons_succ]
  have k0 := (HFX.out.below.cell (p := ⟨sb, 0, none⟩) hsb).trans c0
  have HC0 := Lib.hid k0
  clear hS0 u1 c0 c2
  generalize hW : (w.alloc (.cells #[.int .i64 pa, .int .u32 pz] 82)).drew = W0 at *
  have HF0 := Lib.hid (GFr.refl base W0)
  have hbW : base ≤ W0.heap.size := HENV.out.hb
  clear hW hE0
  generalize w.heap.size = vbk at *
  try clear hmb hbs
  go_wp2_with fail
  refine HCALL.out.mono ?_
  rintro e w1 ⟨rfl, b1, hpx, h1, h2⟩
  have HM1 := Lib.hid h1
  have HF1 := Lib.hid (HFX.out.trans h2)
  have HB1 := Lib.hid hpx
  clear h1 h2 hpx k0
  go_wp2_with fail
  go_end0
  rw [HS.out]
  exact ⟨rfl, _, HB1.out, HM1.out, HF1.out⟩
end Go.Proofs.YtgjgaeloehfhiaaGreatDoor
