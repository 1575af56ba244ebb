/- The generator: expressions. -/
import Derived.Test.YtgjgaeloehfhiaaGreatDoorM27
namespace Go.Proofs.YtgjgaeloehfhiaaGreatDoor
open Go.RowKit

theorem run_field82_0 (a b : Value) (w : World) : (Instr.field 82 (.agg #[a, b]) 0).run Tryz.prog w = .ok a w := by kernel_rfl

set_option maxRecDepth 100000 in
set_option maxHeartbeats 4000000 in
theorem expr0 {base mb ub N _lo hi : Nat} {L : Places} {bs : List Nat} {S : GSt} (t : Tok) (ln d eb : Nat) (w : World) (hft : t.fit) (_heb : eb < base) (_hhi : hi ≤ base) (_henv : GEnv w base ub N L) (h : MkAt w base mb ub bs S) (hw : S.wf) (hcell : w.heap[eb]? = some (.cells #[.int .i64 (0 : Nat), .int .i64 t.kind, .string t.text, .int .i64 t.line, .int .u32 t.num, .int .i64 ln, .pointer none, .pointer none] 197 (0, 0))) (hlen : S.out.length + 8 ≤ 100000000) :
    Calls Tryz.prog 140 #[.pointer (some ⟨mb, 0, none⟩), .pointer (some ⟨eb, 0, none⟩), .int .i64 d] w (GenC w base mb ub bs (genE L (.exp 0 t ln .nil .nil) d S)) := by
  have hspec : genE L (.exp 0 t ln .nil .nil) d S = litF t.num S := rfl
  have HS := Lib.hid hspec
  clear hspec
  generalize genE L (.exp 0 t ln .nil .nil) d S = RES at *
  have hcs := fun o => cell_of_heap (o := o) hcell
  have c0 := hcs 0
  have c2 := hcs 2
  have c4 := hcs 4
  have c6 := hcs 6
  have c7 := hcs 7
  simp only [List.getElem?_toArray, List.getElem?_cons_zero, List.getElem?_cons_succ] at c0 c2 c4 c6 c7
  clear hcs hcell
  have hl := literal_any t.num hft.2 w h hw (by omega)
  have HL := Lib.hid hl
  clear hl _henv h hw c2 c6 c7 hft
  obtain ⟨tk, text, line, num⟩ := t
  simp only at *
  go_enter Tryz.func140, Tryz.ntmps140
  go_wp2_with fail
  refine HL.out.mono ?_
  rintro e w1 ⟨rfl, hp⟩
  have HP := Lib.hid hp
  clear hp
  go_wp2_with fail
  go_end0
  rw [HS.out]
  exact ⟨rfl, HP.out⟩

set_option maxRecDepth 100000 in
set_option maxHeartbeats 4000000 in
theorem expr1 {base mb ub N _lo hi : Nat} {L : Places} {bs : List Nat} {S : GSt} (t : Tok) (ln d eb : Nat) (w : World) (_hft : t.fit) (_heb : eb < base) (_hhi : hi ≤ base) (_henv : GEnv w base ub N L) (h : MkAt w base mb ub bs S) (hw : S.wf) (hcell : w.heap[eb]? = some (.cells #[.int .i64 (1 : Nat), .int .i64 t.kind, .string t.text, .int .i64 t.line, .int .u32 t.num, .int .i64 ln, .pointer none, .pointer none] 197 (0, 0))) (hlen : S.out.length + 8 ≤ 100000000) :
    Calls Tryz.prog 140 #[.pointer (some ⟨mb, 0, none⟩), .pointer (some ⟨eb, 0, none⟩), .int .i64 d] w (GenC w base mb ub bs (genE L (.exp 1 t ln .nil .nil) d S)) := by
  have hspec : genE L (.exp 1 t ln .nil .nil) d S = (S.put 26 0 0 24).put 4 4 1 0 := rfl
  have HS := Lib.hid hspec
  clear hspec
  generalize genE L (.exp 1 t ln .nil .nil) d S = RES at *
  have hcs := fun o => cell_of_heap (o := o) hcell
  have c0 := hcs 0
  have c2 := hcs 2
  have c4 := hcs 4
  have c6 := hcs 6
  have c7 := hcs 7
  simp only [List.getElem?_toArray, List.getElem?_cons_zero, List.getElem?_cons_succ] at c0 c2 c4 c6 c7
  clear hcs hcell
  clear _henv c2 c4 c6 c7 _hft
  have HM0 := Lib.hid h
  have HF0 := Lib.hid (GFr.refl base w)
  have HG0 := Lib.hid (GLe.refl hw)
  have HB0 := Lib.hid (List.prefix_refl bs)
  have HL0 := Lib.hid h.len
  clear h
  go_enter Tryz.func140, Tryz.ntmps140
  go_wp2_with fail
  refine (put_any 26 0 0 24 _ HM0.out (by have := HG0.out.hi; omega)).mono ?_
  rintro e w1 ⟨rfl, h1, h2⟩
  have HM1 := Lib.hid h1
  have HF1 := Lib.hid (HF0.out.trans h2)
  have HG1 := Lib.hid (HG0.out.trans (gle_put HG0.out.wf 26 0 0 24))
  clear h1 h2
  go_wp2_with fail
  refine (put_any 4 4 1 0 _ HM1.out (by have := HG1.out.hi; omega)).mono ?_
  rintro e w2 ⟨rfl, h1, h2⟩
  have HM2 := Lib.hid h1
  have HF2 := Lib.hid (HF1.out.trans h2)
  have HG2 := Lib.hid (HG1.out.trans (gle_put HG1.out.wf 4 4 1 0))
  clear h1 h2
  go_wp2_with fail
  go_end0
  rw [HS.out]
  exact ⟨rfl, _, HB0.out, HM2.out, HF2.out⟩

set_option maxRecDepth 100000 in
set_option maxHeartbeats 4000000 in
theorem expr2 {base mb ub N _lo hi : Nat} {L : Places} {bs : List Nat} {S : GSt} (t : Tok) (ln d eb : Nat) (w : World) (hft : t.fit) (heb : eb < base) (_hhi : hi ≤ base) (henv : GEnv w base ub N L) (h : MkAt w base mb ub bs S) (_hw : S.wf) (hcell : w.heap[eb]? = some (.cells #[.int .i64 (2 : Nat), .int .i64 t.kind, .string t.text, .int .i64 t.line, .int .u32 t.num, .int .i64 ln, .pointer none, .pointer none] 197 (0, 0))) (hlen : S.out.length + 8 ≤ 100000000) :
    Calls Tryz.prog 140 #[.pointer (some ⟨mb, 0, none⟩), .pointer (some ⟨eb, 0, none⟩), .int .i64 d] w (GenC w base mb ub bs (genE L (.exp 2 t ln .nil .nil) d S)) := by
  have hspec : genE L (.exp 2 t ln .nil .nil) d S = S.put 19 4 7 (placeOf L t).1 := rfl
  have HS := Lib.hid hspec
  clear hspec
  generalize genE L (.exp 2 t ln .nil .nil) d S = RES at *
  have hcs := fun o => cell_of_heap (o := o) hcell
  have c0 := hcs 0
  have c2 := hcs 2
  have c4 := hcs 4
  have c6 := hcs 6
  have c7 := hcs 7
  simp only [List.getElem?_toArray, List.getElem?_cons_zero, List.getElem?_cons_succ] at c0 c2 c4 c6 c7
  clear hcs hcell
  obtain ⟨mpb, u1, hm1, hub, hlook⟩ := henv.place t.text (Nat.le_trans hft.1 (by simp [maxLen]))
  have hpz := henv.lok.place t.text.data.toList
  have hpl : placeOf L t = (L t.text.data.toList).getD (0, 0) := rfl
  unfold lookV at hlook
  generalize (L t.text.data.toList).getD (0, 0) = PL at *
  obtain ⟨pa, pz⟩ := PL
  rw [hpl] at HS
  simp only at HS hlook hpz
  have hmb := h.size
  have hbs := henv.hb
  have hS0 : ∀ w', Ext w w' → w'.cell? ⟨mb, 0, none⟩ = some (.pointer (some ⟨ub, 0, none⟩)) ∧ w'.cell? ⟨ub, 1, none⟩ = some (.map (some mpb)) ∧ w'.cell? ⟨eb, 2, none⟩ = some (.string t.text) ∧
      (Instr.lookup 48 (.map (some mpb)) (.string t.text) false).run Tryz.prog w' = .ok (.agg #[.int .i64 pa, .int .u32 pz]) w' := fun w' hE =>
    ⟨(hE.cell _ _ hmb.2).trans h.cells.1, (hE.cell _ _ (by omega)).trans u1, (hE.cell _ _ (by omega)).trans c2, hlook w' (hE.belowB hbs)⟩
  clear hpl hlook
  have hfl := run_field82_0
  have hp := put_any 19 4 7 pa w.drew (h.ext ((Ext.refl w).drew)) (by omega)
  have hf := GFr.of_ext ((Ext.refl w).drew) hbs
  have HP := Lib.hid hp
  have HF := Lib.hid hf
  clear hp hf henv h _hw c4 c6 c7 hft
  obtain ⟨tk, text, line, num⟩ := t
  simp only at *
  go_enter Tryz.func140, Tryz.ntmps140
  go_wp2_with fail
  refine wp_region_plan (fun w' => w'.cell? ⟨mb, 0, none⟩ = some (.pointer (some ⟨ub, 0, none⟩)) ∧ w'.cell? ⟨ub, 1, none⟩ = some (.map (some mpb)) ∧ w'.cell? ⟨eb, 2, none⟩ = some (.string text) ∧
        (Instr.lookup 48 (.map (some mpb)) (.string text) false).run Tryz.prog w' = .ok (.agg #[.int .i64 pa, .int .u32 pz]) w')
    [(0, true), (1, true), (2, true), (3, true), (4, true), (5, true), (6, true), (7, true), (8, true), (9, true), (10, true), (11, true), (12, true), (13, true), (14, true), (15, false)] true (by kernel_rfl) (by kernel_rfl) (fun c a d v w h => by cases d <;> exact h) (hS0 _ (Ext.refl w).drew) ?_
  iterate 15 (refine ⟨_, ?_, rfl, Or.inl ⟨by rfl, ?_⟩, ?_⟩; rotate_left; (· intro w' hSw; (try dsimp only at hSw); go_simp; (try with_reducible rfl)); simp only [Act.put, List.setIfInBounds_toArray, List.set_cons_zero, List.set_cons_succ, List.getElem_toArray, List.getElem_cons_zero, List.getElem_cons_succ])
  refine wpPlan_act rfl (by rfl) (fun K hK => ?_)
  go_simp
  refine HP.out.mono ?_
  rintro e w1 ⟨rfl, h1, h2⟩
  have HM1 := Lib.hid h1
  have HF1 := Lib.hid (HF.out.trans h2)
  clear h1 h2
  refine hK _ _ (fun h => absurd rfl h) ⟨rfl, ?_⟩
  clear hK K
  try simp only [Act.put, List.setIfInBounds_toArray, List.set_cons_zero, List.set_cons_succ]
  go_wp2_with fail
  go_end0
  rw [HS.out]
  exact ⟨rfl, _, List.prefix_refl _, HM1.out, HF1.out⟩

set_option maxRecDepth 100000 in
set_option maxHeartbeats 4000000 in
theorem expr3 {base mb ub N lo hi : Nat} {L : Places} {bs : List Nat} {S : GSt} (t : Tok) (ln d eb : Nat) (w : World) (hft : t.fit) (heb : eb < base) (hhi : hi ≤ base) (henv : GEnv w base ub N L) (h : MkAt w base mb ub bs S) (hw : S.wf) (l : Ast) (vl : Value) (hl : ExpC base mb ub N L l) (hol : l.okE) (hal : AstAt w lo hi l vl) (hcell : w.heap[eb]? = some (.cells #[.int .i64 (3 : Nat), .int .i64 t.kind, .string t.text, .int .i64 t.line, .int .u32 t.num, .int .i64 ln, vl, .pointer none] 197 (0, 0))) (hlen : S.out.length + 8 * l.sz + 8 ≤ 100000000) (hd : d + l.sz ≤ 1000000) :
    Calls Tryz.prog 140 #[.pointer (some ⟨mb, 0, none⟩), .pointer (some ⟨eb, 0, none⟩), .int .i64 d] w (GenC w base mb ub bs (genE L (.exp 3 t ln l .nil) d S)) := by
  have hspec : genE L (.exp 3 t ln l .nil) d S = (bndF (placeOf L t).2 (genE L l d S)).put 19 4 4 (placeOf L t).1 := rfl
  have HS := Lib.hid hspec
  clear hspec
  generalize genE L (.exp 3 t ln l .nil) d S = RES at *
  have hcs := fun o => cell_of_heap (o := o) hcell
  have c0 := hcs 0
  have c2 := hcs 2
  have c4 := hcs 4
  have c6 := hcs 6
  have c7 := hcs 7
  simp only [List.getElem?_toArray, List.getElem?_cons_zero, List.getElem?_cons_succ] at c0 c2 c4 c6 c7
  clear hcs hcell
  obtain ⟨mpb, u1, hm1, hub, hlook⟩ := henv.place t.text (Nat.le_trans hft.1 (by simp [maxLen]))
  have hpz := henv.lok.place t.text.data.toList
  have hpl : placeOf L t = (L t.text.data.toList).getD (0, 0) := rfl
  unfold lookV at hlook
  generalize (L t.text.data.toList).getD (0, 0) = PL at *
  obtain ⟨pa, pz⟩ := PL
  rw [hpl] at HS
  simp only at HS hlook hpz
  have hmb := h.size
  have hbs := henv.hb
  have hS0 : ∀ w', Ext w w' → w'.cell? ⟨mb, 0, none⟩ = some (.pointer (some ⟨ub, 0, none⟩)) ∧ w'.cell? ⟨ub, 1, none⟩ = some (.map (some mpb)) ∧ w'.cell? ⟨eb, 2, none⟩ = some (.string t.text) ∧
      (Instr.lookup 48 (.map (some mpb)) (.string t.text) false).run Tryz.prog w' = .ok (.agg #[.int .i64 pa, .int .u32 pz]) w' := fun w' hE =>
    ⟨(hE.cell _ _ hmb.2).trans h.cells.1, (hE.cell _ _ (by omega)).trans u1, (hE.cell _ _ (by omega)).trans c2, hlook w' (hE.belowB hbs)⟩
  clear hpl hlook
  have hE0 : Ext w ((w.alloc (.cells #[.int .i64 pa, .int .u32 pz] 82)).drew) := ((Ext.refl w).alloc _).drew
  have hf := GFr.of_ext hE0 hbs
  have HFX := Lib.hid hf
  have HENV := Lib.hid (henv.keep hf.below)
  have HAL := Lib.hid (ast_below hf.below hhi hal)
  have HM0 := Lib.hid (h.ext hE0)
  have HB0 := Lib.hid (List.prefix_refl bs)
  have HG0 := Lib.hid (GLe.refl hw)
  have HEL := Lib.hid hl
  have HOL := Lib.hid hol
  have e6 : ((w.alloc (.cells #[.int .i64 pa, .int .u32 pz] 82)).drew).cell? ⟨eb, 6, none⟩ = some vl := (hf.below.cell (p := ⟨eb, 6, none⟩) heb).trans c6
  have HVB : Hid (((w.alloc (.cells #[.int .i64 pa, .int .u32 pz] 82)).drew).heap[w.heap.size]? = some (.cells #[.int .i64 pa, .int .u32 pz] 82 (0, 0))) := by
    show _ = _
    rw [heapD, heapA, if_pos rfl]
  have hS1 : ∀ w', Ext w w' → _ := fun w' hE => hS0 w' hE
  clear hf henv h hw c4 c6 c7 hft hl hol hal
  obtain ⟨tk, text, line, num⟩ := t
  simp only at *
  go_enter Tryz.func140, Tryz.ntmps140
  go_wp2_with fail
  refine wp_region_plan (fun w' => w'.cell? ⟨mb, 0, none⟩ = some (.pointer (some ⟨ub, 0, none⟩)) ∧ w'.cell? ⟨ub, 1, none⟩ = some (.map (some mpb)) ∧ w'.cell? ⟨eb, 2, none⟩ = some (.string text) ∧
        (Instr.lookup 48 (.map (some mpb)) (.string text) false).run Tryz.prog w' = .ok (.agg #[.int .i64 pa, .int .u32 pz]) w')
    [(0, true), (1, true), (2, true), (3, true), (4, true), (5, true), (6, true), (7, true), (8, true), (9, true), (10, true), (11, true), (12, true), (13, false), (14, false)] true (by kernel_rfl) (by kernel_rfl) (fun c a d v w h => by cases d <;> exact h) (hS0 _ (Ext.refl w).drew) ?_
  iterate 13 (refine ⟨_, ?_, rfl, Or.inl ⟨by rfl, ?_⟩, ?_⟩; rotate_left; (· intro w' hSw; (try dsimp only at hSw); go_simp; (try with_reducible rfl)); simp only [Act.put, List.setIfInBounds_toArray, List.set_cons_zero, List.set_cons_succ, List.getElem_toArray, List.getElem_cons_zero, List.getElem_cons_succ])
  refine wpPlan_act rfl (by rfl) (fun K hK => ?_)
  go_simp
  refine hK _ _ (fun _ => hS0 _ (((Ext.refl w).drew).alloc _)) ?_
  clear hK K
  try simp only [Act.put, List.setIfInBounds_toArray, List.set_cons_zero, List.set_cons_succ]
  refine wpPlan_act rfl (by rfl) (fun K hK => ?_)
  go_simp
  refine hK _ _ (fun h => absurd rfl h) ⟨rfl, ?_⟩
  clear hK K
  try simp only [Act.put, List.setIfInBounds_toArray, List.set_cons_zero, List.set_cons_succ]
  clear hS0 hS1 u1 c0 c2
  generalize hW : (w.alloc (.cells #[.int .i64 pa, .int .u32 pz] 82)).drew = W0 at *
  have HF0 := Lib.hid (GFr.refl base W0)
  have hbW : base ≤ W0.heap.size := HENV.out.hb
  clear hW hE0
  generalize w.heap.size = vbk at *
  go_wp2_with fail
  refine (HEL.out d vl _ bs _ lo hi HOL.out (ast_below HF0.out.below hhi HAL.out) hhi (HENV.out.keep HF0.out.below) HM0.out HG0.out.wf (by have := HG0.out.hi; omega) (by omega)).mono ?_
  rintro e w1 ⟨rfl, bs1, hpx, h1, h2⟩
  have HB1 := Lib.hid (HB0.out.trans hpx)
  clear hpx
  have HM1 := Lib.hid h1
  have HF1 := Lib.hid (HF0.out.trans h2)
  have HG1 := Lib.hid (HG0.out.trans (gle_genE L l d _ HG0.out.wf))
  clear h1 h2
  have v1 := (HF1.out.typ _ _ _ HVB.out (.inl rfl)).trans HVB.out
  have vc0 := cell_of_heap (o := 0) v1
  have vc1 := cell_of_heap (o := 1) v1
  simp only [List.getElem?_toArray, List.getElem?_cons_zero, List.getElem?_cons_succ] at vc0 vc1
  clear v1 e6
  go_wp2_with fail
  refine (bound_any pa pz hpz.1 hpz.2 _ HM1.out HG1.out.wf (Nat.le_trans hbW HF1.out.below.size) (by have := HG1.out.hi; omega)).mono ?_
  rintro e w2 ⟨rfl, bs2, hpx, h1, h2⟩
  have HB2 := Lib.hid (HB1.out.trans hpx)
  clear hpx
  have HM2 := Lib.hid h1
  have HF2 := Lib.hid (HF1.out.trans h2)
  have HG2 := Lib.hid (HG1.out.trans (gle_bnd HG1.out.wf pz))
  clear h1 h2
  clear vc0 vc1
  have v2 := (HF2.out.typ _ _ _ HVB.out (.inl rfl)).trans HVB.out
  have vd0 := cell_of_heap (o := 0) v2
  simp only [List.getElem?_toArray, List.getElem?_cons_zero] at vd0
  clear v2
  go_wp2_with fail
  refine (put_any 19 4 4 pa _ HM2.out (by have := HG2.out.hi; omega)).mono ?_
  rintro e w3 ⟨rfl, h1, h2⟩
  have HM3 := Lib.hid h1
  have HF3 := Lib.hid (HF2.out.trans h2)
  have HG3 := Lib.hid (HG2.out.trans (gle_put HG2.out.wf 19 4 4 pa))
  clear h1 h2
  clear vd0
  go_wp2_with fail
  go_end0
  rw [HS.out]
  exact ⟨rfl, _, HB2.out, HM3.out, HFX.out.trans HF3.out⟩

set_option maxRecDepth 100000 in
set_option maxHeartbeats 4000000 in
theorem expr6 {base mb ub N lo hi : Nat} {L : Places} {bs : List Nat} {S : GSt} (t : Tok) (ln d eb : Nat) (w : World) (_hft : t.fit) (_heb : eb < base) (hhi : hi ≤ base) (henv : GEnv w base ub N L) (h : MkAt w base mb ub bs S) (hw : S.wf) (l : Ast) (vl : Value) (hl : ExpC base mb ub N L l) (hol : l.okE) (hal : AstAt w lo hi l vl) (hcell : w.heap[eb]? = some (.cells #[.int .i64 (6 : Nat), .int .i64 t.kind, .string t.text, .int .i64 t.line, .int .u32 t.num, .int .i64 ln, vl, .pointer none] 197 (0, 0))) (hlen : S.out.length + 8 * l.sz + 8 ≤ 100000000) (hd : d + l.sz ≤ 1000000) :
    Calls Tryz.prog 140 #[.pointer (some ⟨mb, 0, none⟩), .pointer (some ⟨eb, 0, none⟩), .int .i64 d] w (GenC w base mb ub bs (genE L (.exp 6 t ln l .nil) d S)) := by
  have hspec : genE L (.exp 6 t ln l .nil) d S = genE L l d S := rfl
  have HS := Lib.hid hspec
  clear hspec
  generalize genE L (.exp 6 t ln l .nil) d S = RES at *
  have hcs := fun o => cell_of_heap (o := o) hcell
  have c0 := hcs 0
  have c2 := hcs 2
  have c4 := hcs 4
  have c6 := hcs 6
  have c7 := hcs 7
  simp only [List.getElem?_toArray, List.getElem?_cons_zero, List.getElem?_cons_succ] at c0 c2 c4 c6 c7
  clear hcs hcell
  have HENV := Lib.hid henv
  have HAL := Lib.hid hal
  have HEL := Lib.hid hl
  have HOL := Lib.hid hol
  have HC2 := Lib.hid c2
  clear henv c2 c4 c7 _hft hl hol hal
  have HM0 := Lib.hid h
  have HF0 := Lib.hid (GFr.refl base w)
  have HG0 := Lib.hid (GLe.refl hw)
  have HB0 := Lib.hid (List.prefix_refl bs)
  have HL0 := Lib.hid h.len
  clear h
  obtain ⟨tk, text, line, num⟩ := t
  simp only at *
  go_enter Tryz.func140, Tryz.ntmps140
  go_wp2_with fail
  refine (HEL.out d vl _ bs _ lo hi HOL.out (ast_below HF0.out.below hhi HAL.out) hhi (HENV.out.keep HF0.out.below) HM0.out HG0.out.wf (by have := HG0.out.hi; omega) (by omega)).mono ?_
  rintro e w1 ⟨rfl, bs1, hpx, h1, h2⟩
  have HB1 := Lib.hid (HB0.out.trans hpx)
  clear hpx
  have HM1 := Lib.hid h1
  have HF1 := Lib.hid (HF0.out.trans h2)
  have HG1 := Lib.hid (HG0.out.trans (gle_genE L l d _ HG0.out.wf))
  clear h1 h2
  clear c6 c0
  go_wp2_with fail
  go_end0
  rw [HS.out]
  exact ⟨rfl, _, HB1.out, HM1.out, HF1.out⟩

set_option maxRecDepth 100000 in
set_option maxHeartbeats 4000000 in
theorem expr4 {base mb ub N lo hi : Nat} {L : Places} {bs : List Nat} {S : GSt} (t : Tok) (ln d eb : Nat) (w : World) (_hft : t.fit) (heb : eb < base) (hhi : hi ≤ base) (henv : GEnv w base ub N L) (h : MkAt w base mb ub bs S) (hw : S.wf) (l : Ast) (vl : Value) (hl : ExpC base mb ub N L l) (hol : l.okE) (hal : AstAt w lo hi l vl) (hcell : w.heap[eb]? = some (.cells #[.int .i64 (4 : Nat), .int .i64 t.kind, .string t.text, .int .i64 t.line, .int .u32 t.num, .int .i64 ln, vl, .pointer none] 197 (0, 0))) (hlen : S.out.length + 8 * l.sz + 8 ≤ 100000000) (hd : d + l.sz ≤ 1000000) :
    Calls Tryz.prog 140 #[.pointer (some ⟨mb, 0, none⟩), .pointer (some ⟨eb, 0, none⟩), .int .i64 d] w (GenC w base mb ub bs (genE L (.exp 4 t ln l .nil) d S)) := by
  have hspec : genE L (.exp 4 t ln l .nil) d S = signedF t.text.toList (genE L l d S) := rfl
  have HS := Lib.hid hspec
  clear hspec
  generalize genE L (.exp 4 t ln l .nil) d S = RES at *
  have hcs := fun o => cell_of_heap (o := o) hcell
  have c0 := hcs 0
  have c2 := hcs 2
  have c4 := hcs 4
  have c6 := hcs 6
  have c7 := hcs 7
  simp only [List.getElem?_toArray, List.getElem?_cons_zero, List.getElem?_cons_succ] at c0 c2 c4 c6 c7
  clear hcs hcell
  have HENV := Lib.hid henv
  have HAL := Lib.hid hal
  have HEL := Lib.hid hl
  have HOL := Lib.hid hol
  have HC2 := Lib.hid c2
  clear henv c2 c4 c7 _hft hl hol hal
  have HM0 := Lib.hid h
  have HF0 := Lib.hid (GFr.refl base w)
  have HG0 := Lib.hid (GLe.refl hw)
  have HB0 := Lib.hid (List.prefix_refl bs)
  have HL0 := Lib.hid h.len
  clear h
  obtain ⟨tk, text, line, num⟩ := t
  simp only at *
  go_enter Tryz.func140, Tryz.ntmps140
  go_wp2_with fail
  refine (HEL.out d vl _ bs _ lo hi HOL.out (ast_below HF0.out.below hhi HAL.out) hhi (HENV.out.keep HF0.out.below) HM0.out HG0.out.wf (by have := HG0.out.hi; omega) (by omega)).mono ?_
  rintro e w1 ⟨rfl, bs1, hpx, h1, h2⟩
  have HB1 := Lib.hid (HB0.out.trans hpx)
  clear hpx
  have HM1 := Lib.hid h1
  have HF1 := Lib.hid (HF0.out.trans h2)
  have HG1 := Lib.hid (HG0.out.trans (gle_genE L l d _ HG0.out.wf))
  clear h1 h2
  clear c6 c0
  have k2_1 : w1.cell? ⟨eb, 2, none⟩ = some (.string text) := (HF1.out.below.cell (p := ⟨eb, 2, none⟩) heb).trans HC2.out
  go_wp2_with fail
  refine (signed_any text _ HM1.out HG1.out.wf (by have := HG1.out.hi; omega)).mono ?_
  rintro e w2 ⟨rfl, bs2, hpx, h1, h2⟩
  have HB2 := Lib.hid (HB1.out.trans hpx)
  clear hpx
  have HM2 := Lib.hid h1
  have HF2 := Lib.hid (HF1.out.trans h2)
  have HG2 := Lib.hid (HG1.out.trans (gle_signed HG1.out.wf text.toList))
  clear h1 h2
  clear k2_1
  go_wp2_with fail
  go_end0
  rw [HS.out]
  exact ⟨rfl, _, HB2.out, HM2.out, HF2.out⟩

set_option maxRecDepth 100000 in
set_option maxHeartbeats 4000000 in
theorem expr5 {base mb ub N lo hi : Nat} {L : Places} {bs : List Nat} {S : GSt} (t : Tok) (ln d eb : Nat) (w : World) (hft : t.fit) (heb : eb < base) (hhi : hi ≤ base) (henv : GEnv w base ub N L) (h : MkAt w base mb ub bs S) (hw : S.wf) (l r : Ast) (vl vr : Value) (hl : ExpC base mb ub N L l) (hr : ExpC base mb ub N L r) (hol : l.okE) (hor : r.okE) (hal : AstAt w lo hi l vl) (har : AstAt w lo hi r vr) (hcell : w.heap[eb]? = some (.cells #[.int .i64 (5 : Nat), .int .i64 t.kind, .string t.text, .int .i64 t.line, .int .u32 t.num, .int .i64 ln, vl, vr] 197 (0, 0))) (hlen : S.out.length + 8 * l.sz + 8 * r.sz + 8 ≤ 100000000) (hd : d + l.sz + r.sz + 1 ≤ 1000000) :
    Calls Tryz.prog 140 #[.pointer (some ⟨mb, 0, none⟩), .pointer (some ⟨eb, 0, none⟩), .int .i64 d] w (GenC w base mb ub bs (genE L (.exp 5 t ln l r) d S)) := by
  have hcs := fun o => cell_of_heap (o := o) hcell
  have c0 := hcs 0
  have c2 := hcs 2
  have c4 := hcs 4
  have c6 := hcs 6
  have c7 := hcs 7
  simp only [List.getElem?_toArray, List.getElem?_cons_zero, List.getElem?_cons_succ] at c0 c2 c4 c6 c7
  clear hcs hcell
  have hP : Calls Tryz.prog 166 #[.pointer (some ⟨mb, 0, none⟩), .pointer (some ⟨eb, 0, none⟩), .int .i64 d] w (GenC w base mb ub bs (genE L (.exp 5 t ln l r) d S)) := by
    have hs : genE L (.exp 5 t ln l r) d S = if t.text.toList = [38, 38] then shortF (genE L l d) (genE L r d) 22 1 S else if t.text.toList = [124, 124] then shortF (genE L l d) (genE L r d) 23 0 S else pairF (genE L l d) (genE L r (d + 1)) d t.text.data.toList S := rfl
    have hsh := pair_short l r hl hr eb d t.text vl vr w heb c2 c6 c7 hol hor hal har hhi henv h hw (by omega) (by omega)
    by_cases h1 : t.text.toList = [38, 38]
    · rw [hs, if_pos h1]; exact hsh.1 h1
    by_cases h2 : t.text.toList = [124, 124]
    · rw [hs, if_neg h1, if_pos h2]; exact hsh.2 h2
    rw [hs, if_neg h1, if_neg h2]
    exact pair_plain l r hl hr eb d t.text vl vr w heb c2 c6 c7 hol hor hal har hhi henv h hw (by omega) (by omega) (Nat.le_trans hft.1 (by simp [maxLen])) h1 h2
  have HL := Lib.hid hP
  clear hP henv h hw c2 c4 c6 c7 hft hl hr hol hor hal har
  go_enter Tryz.func140, Tryz.ntmps140
  go_wp2_with fail
  refine HL.out.mono ?_
  rintro e w1 ⟨rfl, hp⟩
  have HP := Lib.hid hp
  clear hp
  go_wp2_with fail
  go_end0
  exact ⟨rfl, HP.out⟩

theorem expr_all (base mb ub N : Nat) (L : Places) : ∀ e : Ast, ExpC base mb ub N L e := by
  intro e
  induction e with
  | exp k t ln l r ihl ihr =>
    intro d v w bs S lo hi hok ha hhi henv h hw hlen hd
    obtain ⟨eb, vl, vr, rfl, hlo, hb, hcell, hal, har⟩ := ha
    obtain ⟨hft, hsh⟩ := hok
    simp only [Ast.sz] at hlen hd
    rcases hsh with ⟨rfl | rfl | rfl, rfl, rfl⟩ | ⟨rfl | rfl | rfl, hol, rfl⟩ | ⟨rfl, hol, hor⟩
    · obtain rfl : vl = .pointer none := hal
      obtain rfl : vr = .pointer none := har
      exact expr0 (_lo := lo) (hi := hi) t ln d eb w hft (by omega) hhi henv h hw hcell (by omega)
    · obtain rfl : vl = .pointer none := hal
      obtain rfl : vr = .pointer none := har
      exact expr1 (_lo := lo) (hi := hi) t ln d eb w hft (by omega) hhi henv h hw hcell (by omega)
    · obtain rfl : vl = .pointer none := hal
      obtain rfl : vr = .pointer none := har
      exact expr2 (_lo := lo) (hi := hi) t ln d eb w hft (by omega) hhi henv h hw hcell (by omega)
    · obtain rfl : vr = .pointer none := har
      exact expr3 t ln d eb w hft (by omega) hhi henv h hw l vl ihl hol hal hcell (by omega) (by omega)
    · obtain rfl : vr = .pointer none := har
      exact expr4 t ln d eb w hft (by omega) hhi henv h hw l vl ihl hol hal hcell (by omega) (by omega)
    · obtain rfl : vr = .pointer none := har
      exact expr6 t ln d eb w hft (by omega) hhi henv h hw l vl ihl hol hal hcell (by omega) (by omega)
    · exact expr5 t ln d eb w hft (by omega) hhi henv h hw l r vl vr ihl ihr hol hor hal har hcell (by omega) (by omega)
  | _ => intro d v w bs S lo hi hok; exact hok.elim
end Go.Proofs.YtgjgaeloehfhiaaGreatDoor
