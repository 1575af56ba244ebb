/- Statements, told. -/
import Derived.Test.YtgjgaeloehfhiaaGreatDoorM36
import Derived.Test.YtgjgaeloehfhiaaGreatDoorM39
namespace Go.Proofs.YtgjgaeloehfhiaaGreatDoor
open Go.RowKit


theorem chk_stm {L : Places} {k : Nat} {t : Tok} {e f body rest : Ast} {link : Bool} (h : ∃ loops, chkF L (.stm k t e f body rest link) loops = none) :
    ((k = 0 ∨ k = 1) → usedF L t (k == 1) = none) ∧ namedF L e = none ∧ namedF L f = none ∧ (∃ loops, chkF L body loops = none) ∧ (∃ loops, chkF L rest loops = none) := by
  obtain ⟨loops, h⟩ := h
  simp only [chkF, Option.or_eq_none_iff] at h
  refine ⟨fun hk => ?_, h.2.1, h.2.2.1, ⟨_, h.2.2.2.1⟩, ⟨_, h.2.2.2.2⟩⟩
  have h1 := h.1
  rw [if_pos hk] at h1
  exact h1
theorem SPost.none {mb base ub mpb n fuel used used' how : Nat} {L : Places} {w w' : World} {outs outs' : List (Int × Nat)} (hh : how ≤ 2) (hm : MIn w' mb base ub mpb n fuel L outs' used') (hu : used ≤ used') (ho : outs'.length + used ≤ outs.length + used') (hf : MFr base mb w w') :
    SPost mb base ub mpb n fuel L w outs used none (.returned (.int .i64 (how : Int))) w' := .inl ⟨how, outs', used', rfl, hh, hm, hu, ho, hf, fun y hy => by cases hy⟩

set_option maxRecDepth 100000 in
set_option maxHeartbeats 12800000 in
theorem stm_tells {base hi lo : Nat} {L : Places} (a : Ast) (hst : a.isStm) (hs : ∀ x : Ast, x.sz < a.sz → LmC base hi lo L x) : SmC base hi lo L a := by
  intro w mb ub mpb n fuel used outs v h ha hhi hok hck hsz
  cases a with
  | stm kd t e f body rest link =>
    obtain ⟨sb, ve, vf, vb, vr, rfl, h1, h2, hc, he, hf, hbd, hrs⟩ := ha
    obtain ⟨hu, hne, hnf, hcb, hcr⟩ := chk_stm hck
    have hsb : sb < base := by omega
    have hcell : ∀ w', Below base w w' → w'.cell? ⟨sb, 0, none⟩ = some (.int .i64 kd) ∧ w'.cell? ⟨sb, 1, none⟩ = some (.int .i64 t.kind) ∧ w'.cell? ⟨sb, 2, none⟩ = some (.string t.text) ∧ w'.cell? ⟨sb, 3, none⟩ = some (.int .i64 t.line) ∧ w'.cell? ⟨sb, 4, none⟩ = some (.int .u32 t.num) ∧ w'.cell? ⟨sb, 5, none⟩ = some ve ∧ w'.cell? ⟨sb, 6, none⟩ = some vf ∧ w'.cell? ⟨sb, 7, none⟩ = some vb ∧ w'.cell? ⟨sb, 8, none⟩ = some vr := fun w' hb =>
      ⟨(hb.cell (p := ⟨sb, 0, none⟩) hsb).trans (cell_of_heap (o := 0) hc), (hb.cell (p := ⟨sb, 1, none⟩) hsb).trans (cell_of_heap (o := 1) hc), (hb.cell (p := ⟨sb, 2, none⟩) hsb).trans (cell_of_heap (o := 2) hc), (hb.cell (p := ⟨sb, 3, none⟩) hsb).trans (cell_of_heap (o := 3) hc), (hb.cell (p := ⟨sb, 4, none⟩) hsb).trans (cell_of_heap (o := 4) hc), (hb.cell (p := ⟨sb, 5, none⟩) hsb).trans (cell_of_heap (o := 5) hc), (hb.cell (p := ⟨sb, 6, none⟩) hsb).trans (cell_of_heap (o := 6) hc), (hb.cell (p := ⟨sb, 7, none⟩) hsb).trans (cell_of_heap (o := 7) hc), (hb.cell (p := ⟨sb, 8, none⟩) hsb).trans (cell_of_heap (o := 8) hc)⟩
    obtain ⟨c0, c1, c2, c3, c4, c5, c6, c7, c8⟩ := hcell w (Below.refl _ _)
    have HC := Lib.hid hcell
    have HM := Lib.hid h
    have hBB := h.hB
    have hlow := h.m.low
    have hfu := h.fu
    have hf6 := h.f6
    have hol := h.ol
    have hts := hok.1.1
    have hsz0 : 1 + e.sz + f.sz + body.sz + rest.sz ≤ 300000 := hsz
    have hszl : ∀ x : Ast, x.sz < 1 + e.sz + f.sz + body.sz + rest.sz → LmC base hi lo L x := hs
    have HS := Lib.hid hszl
    have HOK := Lib.hid hok.2
    -- an expression, a list, from any later world
    have hex : ∀ (x : Ast) (vx : Value), AstAt w lo hi x vx → x.okE → namedF L x = none → ∀ w' outs' used', MIn w' mb base ub mpb n fuel L outs' used' → Below base w w' → Calls Tryz.prog 117 #[.pointer (some ⟨mb, 0, none⟩), vx] w' (XPost mb base ub mpb n fuel L w' outs' used' (constE x)) :=
      fun x vx hx hxo hxn w' outs' used' hm hb => expr_any x w' mb ub mpb n fuel used' outs' vx hm (ast_below hb hhi hx) hhi hxo hxn
    have hli : ∀ (x : Ast) (vx : Value), AstAt w lo hi x vx → x.okS → x.isL → (∃ loops, chkF L x loops = none) → x.sz < 1 + e.sz + f.sz + body.sz + rest.sz → ∀ w' outs' used', MIn w' mb base ub mpb n fuel L outs' used' → Below base w w' → Calls Tryz.prog 40 #[.pointer (some ⟨mb, 0, none⟩), vx] w' (SPost mb base ub mpb n fuel L w' outs' used' (constI x.items)) :=
      fun x vx hx hxo hxl hxc hxz w' outs' used' hm hb => hszl x hxz w' mb ub mpb n fuel used' outs' vx hm (ast_below hb hhi hx) hhi hxo hxl hxc (by omega)
    have HEX := Lib.hid hex
    have HLI := Lib.hid hli
    have HE := Lib.hid he
    have HF := Lib.hid hf
    have HBD := Lib.hid hbd
    have HRS := Lib.hid hrs
    have HU := Lib.hid hu
    have HNE := Lib.hid hne
    have HNF := Lib.hid hnf
    have HCB := Lib.hid hcb
    have HCR := Lib.hid hcr
    have hlc : ∀ w' outs' used', MIn w' mb base ub mpb n fuel L outs' used' → Below base w w' → used' ≤ fuel := fun _ _ _ hm _ => hm.fu
    clear h hc he hf hbd hrs hcell hok hs hszl hu hne hnf hcb hcr hck hsz hex hli hlc
    by_cases h9 : kd = 9
    · subst h9
      rcases HOK.out with ⟨hk, -⟩ | ⟨hk, -⟩ | ⟨hk, -⟩ | ⟨hk, -⟩ | ⟨hk, -⟩ | ⟨hk, -⟩ | ⟨-, -, -, hob, hbk, -, -⟩
      all_goals try omega
      rw [show constS (.stm 9 t e f body rest link) = none from rfl]
      obtain ⟨ln, bl, rfl⟩ : ∃ ln bl, body = .blk ln bl := by cases body <;> first | exact hbk.elim | exact ⟨_, _, rfl⟩
      obtain ⟨bb, vl, rfl, g1, g2, gc, hal⟩ := HBD.out
      have d1 := cell_of_heap (o := 1) gc
      simp only [List.getElem?_toArray, List.getElem?_cons_zero, List.getElem?_cons_succ] at d1
      have HLL := Lib.hid (HLI.out bl vl hal (okS_blk hob).1 (okS_blk hob).2 HCB.out (by simp only [Ast.sz]; omega) w outs used HM.out (Below.refl _ _))
      clear gc hal hob
      go_enter Tryz.func72, Tryz.ntmps72
      go_wp2_with fail
      refine HLL.out.mono ?_
      rintro ee w2 hx
      rcases hx with ⟨how, outs2, used2, rfl, hhow, hm2, hu2, ho2, hf2, -⟩ | ⟨-, st, code, o1, u1, rfl, g1, g2⟩
      rotate_left
      · exact ⟨rfl, .inr ⟨.inl rfl, st, code, o1, u1, rfl, g1, g2⟩⟩
      have HM2 := Lib.hid hm2
      have HF2 := Lib.hid hf2
      clear hm2 hf2
      go_wp2_with fail
      go_ret
      exact SPost.none hhow HM2.out hu2 ho2 HF2.out
    have hk9 : ((kd : Int) != 9) = true := by rw [bne_iff_ne]; omega
    by_cases huf : used = fuel
    · have HSP := Lib.hid (spend_end w HM.out.m hBB huf)
      go_enter Tryz.func72, Tryz.ntmps72
      go_wp2_with fail
      refine HSP.out.mono ?_
      rintro ee w2 ⟨rfl, hE⟩
      exact ⟨rfl, .inr ⟨.inr (by first | exact huf | rfl), 1, 0, outs, used, rfl, HM.out.m.ext hE, .of_ext hE hBB⟩⟩
    have HSP := Lib.hid (spend_on w HM.out.m hBB (by omega) hf6)
    rcases HOK.out with ⟨rfl, hoe, rfl, rfl, rfl, rfl⟩ | ⟨rfl, hoe, hof, rfl, rfl, rfl⟩ | ⟨rfl, hoe, rfl, hob, hbk, hrest⟩ | ⟨rfl, hoe, rfl, hob, hbk, rfl, rfl⟩ | ⟨rfl | rfl, hoe, rfl, rfl, rfl, rfl⟩ | ⟨rfl | rfl | rfl, rfl, rfl, rfl, rfl, rfl⟩ | ⟨rfl, -⟩
    · have HOE := Lib.hid hoe
      obtain ⟨a, z, hp, p1, p2, -⟩ := used_at HM.out.lr (HU.out (.inl rfl))
      have hw1 : IntKind.i64.wrap ((a : Int) - 384) = ((a - 384 : Nat) : Int) := by rw [show ((a : Int) - 384) = ((a - 384 : Nat) : Int) by omega]; exact IntWalk.i64_in _ (by omega)
      have ha96 : a - 384 < 96 := by omega
      have ha97 : ((a - 384 : Nat) : Int) < 96 := by omega
      have hfl := run_field82_0
      have HP := Lib.hid hp
      clear hp hoe
      generalize a - 384 = a' at *
      go_enter Tryz.func72, Tryz.ntmps72
      go_wp2_with fail
      refine HSP.out.mono ?_
      rintro ee w1 ⟨rfl, hm1, hf1⟩
      have HM1 := Lib.hid (HM.out.step hm1 hf1 (by omega) (by omega))
      have HF1 := Lib.hid hf1
      clear hm1 hf1 c0 c1 c2 c3 c4 c5 c6 c7 c8
      obtain ⟨c0, c1, c2, c3, c4, c5, c6, c7, c8⟩ := HC.out w1 HF1.out.below
      have hS : ∀ w' outs' used', MIn w' mb base ub mpb n fuel L outs' used' → Below base w w' → w'.cell? ⟨mb, 0, none⟩ = some (.pointer (some ⟨ub, 0, none⟩)) ∧ w'.cell? ⟨ub, 1, none⟩ = some (.map (some mpb)) ∧ w'.cell? ⟨sb, 2, none⟩ = some (.string t.text) ∧ w'.cell? ⟨sb, 5, none⟩ = some ve ∧ (Instr.lookup 48 (.map (some mpb)) (.string t.text) false).run Tryz.prog w' = .ok (.agg #[.int .i64 a, .int .u32 z]) w' := fun w' outs' used' hm hb => by
        obtain ⟨-, -, k2, -, -, k5, -, -, -⟩ := HC.out w' hb
        exact ⟨hm.cell0, hm.map, k2, k5, hm.look hts HP.out⟩
      have HSS := Lib.hid hS
      clear hS
      go_wp2_with fail
      refine wp_region_plan (fun w' => w'.cell? ⟨mb, 0, none⟩ = some (.pointer (some ⟨ub, 0, none⟩)) ∧ w'.cell? ⟨ub, 1, none⟩ = some (.map (some mpb)) ∧ w'.cell? ⟨sb, 2, none⟩ = some (.string t.text) ∧ w'.cell? ⟨sb, 5, none⟩ = some ve ∧ (Instr.lookup 48 (.map (some mpb)) (.string t.text) false).run Tryz.prog w' = .ok (.agg #[.int .i64 a, .int .u32 z]) w')
        [(0, true), (1, true), (2, true), (3, true), (4, true), (5, true), (6, true), (7, true), (8, true), (9, true), (10, true), (11, true), (12, true), (13, true), (14, true), (15, true), (16, true), (17, true), (18, true), (19, true), (20, true), (22, true), (23, true), (21, false), (24, true), (25, false)] true (by kernel_rfl) (by kernel_rfl) (fun c a d v w h => by cases d <;> exact h) (HSS.out _ _ _ (HM1.out.ext ((Ext.refl _).drew)) HF1.out.below.drew) ?_
      iterate 23 (refine ⟨_, ?_, rfl, Or.inl ⟨by rfl, ?_⟩, ?_⟩; rotate_left; (· intro w' hSw; (try dsimp only at hSw); go_simp; (try with_reducible rfl)); simp only [Act.put, List.setIfInBounds_toArray, List.set_cons_zero, List.set_cons_succ, List.getElem_toArray, List.getElem_cons_zero, List.getElem_cons_succ])
      refine wpPlan_act rfl (by rfl) (fun K hK => ?_)
      go_simp
      have hD1 : Ext w1 w1.drew := (Ext.refl _).drew
      refine (HEX.out e ve HE.out HOE.out HNE.out _ outs (used + 1) (HM1.out.ext hD1) (HF1.out.trans (.of_ext hD1 HM1.out.hB)).below).mono ?_
      rintro ee w2 hx
      rcases hx with ⟨x2, outs2, used2, rfl, hx2, hm, hu2, ho2, hf, hex⟩ | ⟨hcn, hend⟩
      rotate_left
      · obtain ⟨st, code, o1, u1, rfl, g1, g2⟩ := hend
        exact ⟨rfl, .inr ⟨.inl rfl, st, code, o1, u1, rfl, g1, (HF1.out.trans (.of_ext hD1 HM1.out.hB)).trans g2⟩⟩
      have HM2 := Lib.hid hm
      have HF2 := Lib.hid ((HF1.out.trans (.of_ext hD1 HM1.out.hB)).trans hf)
      have HX2 := Lib.hid hex
      have hfu2 := hm.fu
      have hol2 := hm.ol
      clear hm hf hex c0 c1 c2 c3 c4 c5 c6 c7 c8
      obtain ⟨c0, c1, c2, c3, c4, c5, c6, c7, c8⟩ := HC.out w2 HF2.out.below
      obtain ⟨y, hy, hcy, hfy⟩ := HM2.out.m.mem a' ha96
      have hm3 := HM2.out.m.setMem a' ha96 x2 hx2
      have HM3 := Lib.hid (HM2.out.step hm3 (setCell_fr hlow _) hfu2 hol2)
      have HF3 := Lib.hid (HF2.out.trans (setCell_fr (i := 1 + a') hlow (.int .u32 (x2 : Int))))
      clear hm3
      refine hK _ _ (fun _ => HSS.out _ _ _ HM2.out HF2.out.below) ?_
      clear hK K
      try simp only [Act.put, List.setIfInBounds_toArray, List.set_cons_zero, List.set_cons_succ]
      (refine ⟨_, ?_, rfl, Or.inl ⟨by rfl, ?_⟩, ?_⟩; rotate_left; (· intro w' hSw; (try dsimp only at hSw); go_simp; (try with_reducible rfl)); simp only [Act.put, List.setIfInBounds_toArray, List.set_cons_zero, List.set_cons_succ, List.getElem_toArray, List.getElem_cons_zero, List.getElem_cons_succ])
      refine wpPlan_act rfl (by rfl) (fun K hK => ?_)
      go_simp
      refine hK _ _ (fun h => absurd rfl h) ?_
      clear hK K
      refine ⟨rfl, ?_⟩
      clear c0 c1 c2 c3 c4 c5 c6 c7 c8 hcy hfy
      go_wp2_with fail
      go_ret
      exact SPost.none (how := 0) (by omega) HM3.out (by omega) (by omega) HF3.out
    · have HOE := Lib.hid hoe
      have HOF := Lib.hid hof
      clear hoe hof
      go_enter Tryz.func72, Tryz.ntmps72
      go_wp2_with fail
      refine HSP.out.mono ?_
      rintro ee w1 ⟨rfl, hm1, hf1⟩
      have HM1 := Lib.hid (HM.out.step hm1 hf1 (by omega) (by omega))
      have HF1 := Lib.hid hf1
      clear hm1 hf1 c0 c1 c2 c3 c4 c5 c6 c7 c8
      obtain ⟨c0, c1, c2, c3, c4, c5, c6, c7, c8⟩ := HC.out w1 HF1.out.below
      go_wp2_with fail
      refine wp_region_plan (fun w' => w'.cell? ⟨sb, 1, none⟩ = some (.int .i64 t.kind) ∧ w'.cell? ⟨sb, 2, none⟩ = some (.string t.text) ∧ w'.cell? ⟨sb, 3, none⟩ = some (.int .i64 t.line) ∧ w'.cell? ⟨sb, 4, none⟩ = some (.int .u32 t.num) ∧ w'.cell? ⟨sb, 5, none⟩ = some ve)
        [(0, true), (1, true), (2, true), (3, true), (4, true), (5, true), (6, true), (7, true), (8, true), (9, false), (10, true)] true (by kernel_rfl) (by kernel_rfl) (fun c a d v w h => by cases d <;> exact h) ⟨c1, c2, c3, c4, c5⟩ ?_
      iterate 9 (refine ⟨_, ?_, rfl, Or.inl ⟨by rfl, ?_⟩, ?_⟩; rotate_left; (· intro w' hSw; (try dsimp only at hSw); go_simp; (try with_reducible rfl)); simp only [Act.put, List.setIfInBounds_toArray, List.set_cons_zero, List.set_cons_succ, List.getElem_toArray, List.getElem_cons_zero, List.getElem_cons_succ])
      refine wpPlan_act rfl (by rfl) (fun K hK => ?_)
      go_simp
      have hD1 : Ext w1 w1.drew := (Ext.refl _).drew
      have hf1d := HF1.out.trans (.of_ext hD1 HM1.out.hB)
      refine (index_any e (expr_any e) w1.drew mb ub mpb n fuel (used + 1) outs t ve (HM1.out.ext hD1) (ast_below hf1d.below hhi HE.out) hhi HOE.out HNE.out hts (HU.out (by simp))).mono ?_
      rintro ee w2 hx
      rcases hx with ⟨x2, outs2, used2, rfl, hx2, hm, hu2, ho2, hf⟩ | ⟨st, code, o1, u1, rfl, g1, g2⟩
      rotate_left
      · exact ⟨rfl, .inr ⟨.inl rfl, st, code, o1, u1, rfl, g1, hf1d.trans g2⟩⟩
      have HM2 := Lib.hid hm
      have HF2 := Lib.hid (hf1d.trans hf)
      have hfu2 := hm.fu
      have hol2 := hm.ol
      have hxi : (x2 : Int) < 96 := by omega
      clear hm hf hf1d c0 c1 c2 c3 c4 c5 c6 c7 c8
      obtain ⟨c0, c1, c2, c3, c4, c5, c6, c7, c8⟩ := HC.out w2 HF2.out.below
      refine hK _ _ (fun _ => ⟨c1, c2, c3, c4, c5⟩) ?_
      clear hK K
      try simp only [Act.put, List.setIfInBounds_toArray, List.set_cons_zero, List.set_cons_succ]
      (refine ⟨_, ?_, rfl, Or.inl ⟨by rfl, ?_⟩, ?_⟩; rotate_left; (· intro w' hSw; (try dsimp only at hSw); go_simp; (try with_reducible rfl)); simp only [Act.put, List.setIfInBounds_toArray, List.set_cons_zero, List.set_cons_succ, List.getElem_toArray, List.getElem_cons_zero, List.getElem_cons_succ])
      refine ⟨rfl, ?_⟩
      go_wp2_with fail
      refine wp_region_plan (fun w' => w'.cell? ⟨sb, 6, none⟩ = some vf)
        [(0, true), (1, true), (2, true), (3, true), (4, true), (5, true), (6, true), (8, true), (9, true), (7, false), (10, true), (11, false)] true (by kernel_rfl) (by kernel_rfl) (fun c a d v w h => by cases d <;> exact h) c6 ?_
      iterate 9 (refine ⟨_, ?_, rfl, Or.inl ⟨by rfl, ?_⟩, ?_⟩; rotate_left; (· intro w' hSw; (try dsimp only at hSw); go_simp; (try with_reducible rfl)); simp only [Act.put, List.setIfInBounds_toArray, List.set_cons_zero, List.set_cons_succ, List.getElem_toArray, List.getElem_cons_zero, List.getElem_cons_succ])
      refine wpPlan_act rfl (by rfl) (fun K hK => ?_)
      go_simp
      have hD2 : Ext w2 w2.drew := (Ext.refl _).drew
      refine (HEX.out f vf HF.out HOF.out HNF.out _ outs2 used2 (HM2.out.ext hD2) (HF2.out.trans (.of_ext hD2 HM2.out.hB)).below).mono ?_
      rintro ee w3 hx
      rcases hx with ⟨x3, outs3, used3, rfl, hx3, hm, hu3, ho3, hf, hex⟩ | ⟨hcn, hend⟩
      rotate_left
      · obtain ⟨st, code, o1, u1, rfl, g1, g2⟩ := hend
        exact ⟨rfl, .inr ⟨.inl rfl, st, code, o1, u1, rfl, g1, (HF2.out.trans (.of_ext hD2 HM2.out.hB)).trans g2⟩⟩
      have HM3 := Lib.hid hm
      have HF3 := Lib.hid ((HF2.out.trans (.of_ext hD2 HM2.out.hB)).trans hf)
      have HX3 := Lib.hid hex
      have hfu3 := hm.fu
      have hol3 := hm.ol
      clear hm hf hex c0 c1 c2 c3 c4 c5 c6 c7 c8
      obtain ⟨c0, c1, c2, c3, c4, c5, c6, c7, c8⟩ := HC.out w3 HF3.out.below
      obtain ⟨y, hy, hcy, hfy⟩ := HM3.out.m.mem x2 hx2
      have hm4 := HM3.out.m.setMem x2 hx2 x3 hx3
      have HM4 := Lib.hid (HM3.out.step hm4 (setCell_fr hlow _) hfu3 hol3)
      have HF4 := Lib.hid (HF3.out.trans (setCell_fr (i := 1 + x2) hlow (.int .u32 (x3 : Int))))
      clear hm4
      refine hK _ _ (fun _ => c6) ?_
      clear hK K
      try simp only [Act.put, List.setIfInBounds_toArray, List.set_cons_zero, List.set_cons_succ]
      (refine ⟨_, ?_, rfl, Or.inl ⟨by rfl, ?_⟩, ?_⟩; rotate_left; (· intro w' hSw; (try dsimp only at hSw); go_simp; (try with_reducible rfl)); simp only [Act.put, List.setIfInBounds_toArray, List.set_cons_zero, List.set_cons_succ, List.getElem_toArray, List.getElem_cons_zero, List.getElem_cons_succ])
      refine wpPlan_act rfl (by rfl) (fun K hK => ?_)
      go_simp
      refine hK _ _ (fun h => absurd rfl h) ?_
      clear hK K
      refine ⟨rfl, ?_⟩
      clear c0 c1 c2 c3 c4 c5 c6 c7 c8 hcy hfy
      go_wp2_with fail
      go_ret
      exact SPost.none (how := 0) (by omega) HM4.out (by omega) (by omega) HF4.out
    · have HOE := Lib.hid hoe
      obtain ⟨ln, bl, rfl⟩ : ∃ ln bl, body = .blk ln bl := by cases body <;> first | exact hbk.elim | exact ⟨_, _, rfl⟩
      obtain ⟨bb, vl, rfl, g1, g2, gc, hal⟩ := HBD.out
      have hbb : bb < base := by omega
      have d1 := cell_of_heap (o := 1) gc
      simp only [List.getElem?_toArray, List.getElem?_cons_zero, List.getElem?_cons_succ] at d1
      have HLL := Lib.hid (HLI.out bl vl hal (okS_blk hob).1 (okS_blk hob).2 HCB.out (by simp only [Ast.sz]; omega))
      have HD1 := Lib.hid d1
      clear hoe gc hal hob d1
      go_enter Tryz.func72, Tryz.ntmps72
      go_wp2_with fail
      refine HSP.out.mono ?_
      rintro ee w1 ⟨rfl, hm1, hf1⟩
      have HM1 := Lib.hid (HM.out.step hm1 hf1 (by omega) (by omega))
      have HF1 := Lib.hid hf1
      clear hm1 hf1 c0 c1 c2 c3 c4 c5 c6 c7 c8
      obtain ⟨c0, c1, c2, c3, c4, c5, c6, c7, c8⟩ := HC.out w1 HF1.out.below
      go_wp2_with fail
      refine (HEX.out e ve HE.out HOE.out HNE.out _ outs (used + 1) HM1.out HF1.out.below).mono ?_
      rintro ee w2 hx
      rcases hx with ⟨x2, outs2, used2, rfl, hx2, hm, hu2, ho2, hf, hex⟩ | ⟨hcn, hend⟩
      rotate_left
      · obtain ⟨st, code, o1, u1, rfl, g1, g2⟩ := hend
        exact ⟨rfl, .inr ⟨.inl rfl, st, code, o1, u1, rfl, g1, HF1.out.trans g2⟩⟩
      have HM2 := Lib.hid hm
      have HF2 := Lib.hid (HF1.out.trans hf)
      have HX2 := Lib.hid hex
      have hfu2 := hm.fu
      have hol2 := hm.ol
      clear hm hf hex c0 c1 c2 c3 c4 c5 c6 c7 c8
      obtain ⟨c0, c1, c2, c3, c4, c5, c6, c7, c8⟩ := HC.out w2 HF2.out.below
      have e7 := (HF2.out.below.cell (p := ⟨bb, 1, none⟩) hbb).trans HD1.out
      by_cases hx0 : x2 = 0
      rotate_left
      · have e1 : ((x2 : Int) != 0) = true := by rw [bne_iff_ne]; omega
        go_wp2_with fail
        refine (HLL.out _ outs2 used2 HM2.out HF2.out.below).mono ?_
        rintro ee w3 hx
        rcases hx with ⟨how, outs3, used3, rfl, hhow, hm, hu3, ho3, hf, -⟩ | ⟨-, st, code, o1, u1, rfl, g1, g2⟩
        rotate_left
        · exact ⟨rfl, .inr ⟨.inl rfl, st, code, o1, u1, rfl, g1, HF2.out.trans g2⟩⟩
        have HM3 := Lib.hid hm
        have HF3 := Lib.hid (HF2.out.trans hf)
        clear hm hf
        go_wp2_with fail
        go_ret
        exact SPost.none hhow HM3.out (by omega) (by omega) HF3.out
      subst hx0
      rcases hrest with ⟨rfl, rfl⟩ | ⟨hro, hrb, -⟩
      · have hvr : vr = .pointer none := HRS.out
        subst hvr
        go_wp2_with fail
        go_ret
        exact SPost.none (how := 0) (by omega) HM2.out (by omega) (by omega) HF2.out
      · obtain ⟨ln2, bl2, rfl⟩ : ∃ ln bl, rest = .blk ln bl := by cases rest <;> first | exact hrb.elim | exact ⟨_, _, rfl⟩
        obtain ⟨rb, vl2, rfl, g3, g4, gc2, hal2⟩ := HRS.out
        have hrbb : rb < base := by omega
        have d2 := cell_of_heap (o := 1) gc2
        simp only [List.getElem?_toArray, List.getElem?_cons_zero, List.getElem?_cons_succ] at d2
        have e8 := (HF2.out.below.cell (p := ⟨rb, 1, none⟩) hrbb).trans d2
        have HLL2 := Lib.hid (HLI.out bl2 vl2 hal2 (okS_blk hro).1 (okS_blk hro).2 HCR.out (by simp only [Ast.sz]; omega))
        clear gc2 hal2 hro d2
        go_wp2_with fail
        refine (HLL2.out _ outs2 used2 HM2.out HF2.out.below).mono ?_
        rintro ee w3 hx
        rcases hx with ⟨how, outs3, used3, rfl, hhow, hm, hu3, ho3, hf, -⟩ | ⟨-, st, code, o1, u1, rfl, g1, g2⟩
        rotate_left
        · exact ⟨rfl, .inr ⟨.inl rfl, st, code, o1, u1, rfl, g1, HF2.out.trans g2⟩⟩
        have HM3 := Lib.hid hm
        have HF3 := Lib.hid (HF2.out.trans hf)
        clear hm hf
        go_wp2_with fail
        go_ret
        exact SPost.none hhow HM3.out (by omega) (by omega) HF3.out
    · obtain ⟨ln, bl, rfl⟩ : ∃ ln bl, body = .blk ln bl := by cases body <;> first | exact hbk.elim | exact ⟨_, _, rfl⟩
      obtain ⟨bb, vl, rfl, g1, g2, gc, hal⟩ := HBD.out
      have hbb : bb < base := by omega
      have d1 := cell_of_heap (o := 1) gc
      simp only [List.getElem?_toArray, List.getElem?_cons_zero, List.getElem?_cons_succ] at d1
      simp only [Ast.sz] at hsz0
      have HLO := Lib.hid (fun w' (hm : MIn w' mb base ub mpb n fuel L outs (used + 1)) (hb : Below base w w') => loop_tells e bl (HS.out bl (by simp only [Ast.sz]; omega)) w' mb ub mpb n fuel (used + 1) sb bb outs ve vl hm hsb hbb (HC.out w' hb).2.2.2.2.2.1 (HC.out w' hb).2.2.2.2.2.2.2.1 ((hb.cell (p := ⟨bb, 1, none⟩) hbb).trans d1) (ast_below hb hhi HE.out) (ast_below hb hhi hal) hhi hoe (okS_blk hob).1 (okS_blk hob).2 HNE.out HCB.out (by omega))
      clear hoe gc hal hob d1
      go_enter Tryz.func72, Tryz.ntmps72
      go_wp2_with fail
      refine HSP.out.mono ?_
      rintro ee w1 ⟨rfl, hm1, hf1⟩
      have HM1 := Lib.hid (HM.out.step hm1 hf1 (by omega) (by omega))
      have HF1 := Lib.hid hf1
      clear hm1 hf1 c0 c1 c2 c3 c4 c5 c6 c7 c8
      obtain ⟨c0, c1, c2, c3, c4, c5, c6, c7, c8⟩ := HC.out w1 HF1.out.below
      go_wp2_with fail
      refine (HLO.out w1 HM1.out HF1.out.below).mono ?_
      rintro ee w2 hx
      rcases hx with ⟨outs2, used2, rfl, hm, hu2, ho2, hf⟩ | ⟨st, code, o1, u1, rfl, g1, g2⟩
      rotate_left
      · exact ⟨rfl, .inr ⟨.inl rfl, st, code, o1, u1, rfl, g1, HF1.out.trans g2⟩⟩
      have HM2 := Lib.hid hm
      have HF2 := Lib.hid (HF1.out.trans hf)
      clear hm hf
      go_wp2_with fail
      go_ret
      exact SPost.none (how := 0) (by omega) HM2.out (by omega) (by omega) HF2.out
    · have HOE := Lib.hid hoe
      clear hoe
      go_enter Tryz.func72, Tryz.ntmps72
      go_wp2_with fail
      refine HSP.out.mono ?_
      rintro ee w1 ⟨rfl, hm1, hf1⟩
      have HM1 := Lib.hid (HM.out.step hm1 hf1 (by omega) (by omega))
      have HF1 := Lib.hid hf1
      clear hm1 hf1 c0 c1 c2 c3 c4 c5 c6 c7 c8
      obtain ⟨c0, c1, c2, c3, c4, c5, c6, c7, c8⟩ := HC.out w1 HF1.out.below
      go_wp2_with fail
      refine (HEX.out e ve HE.out HOE.out HNE.out _ outs (used + 1) HM1.out HF1.out.below).mono ?_
      rintro ee w2 hx
      rcases hx with ⟨x2, outs2, used2, rfl, hx2, hm, hu2, ho2, hf, hex⟩ | ⟨hcn, hend⟩
      rotate_left
      · obtain ⟨st, code, o1, u1, rfl, g1, g2⟩ := hend
        exact ⟨rfl, .inr ⟨.inl (by rw [← hcn]; rfl), st, code, o1, u1, rfl, g1, HF1.out.trans g2⟩⟩
      have HM2 := Lib.hid hm
      have HF2 := Lib.hid (HF1.out.trans hf)
      have HX2 := Lib.hid hex
      have hfu2 := hm.fu
      have hol2 := hm.ol
      clear hm hf hex c0 c1 c2 c3 c4 c5 c6 c7 c8
      obtain ⟨c0, c1, c2, c3, c4, c5, c6, c7, c8⟩ := HC.out w2 HF2.out.below
      go_wp2_with fail
      refine (out_any 14 x2 _ HM2.out.m HM2.out.hB (by omega)).mono ?_
      rintro ee w3 ⟨rfl, hm3, hf3⟩
      have HM3 := Lib.hid (HM2.out.step hm3 hf3 hfu2 (by rw [List.length_append]; simp only [List.length_cons, List.length_nil]; omega))
      have HF3 := Lib.hid (HF2.out.trans hf3)
      clear hm3 hf3
      go_wp2_with fail
      go_ret
      refine .inl ⟨0, _, used2, rfl, by omega, HM3.out, by omega, by rw [List.length_append]; simp only [List.length_cons, List.length_nil]; omega, HF3.out, fun y hy => ?_⟩
      obtain ⟨rfl, rfl, rfl⟩ := HX2.out y hy
      exact ⟨rfl, rfl, rfl⟩
    · have HOE := Lib.hid hoe
      clear hoe
      go_enter Tryz.func72, Tryz.ntmps72
      go_wp2_with fail
      refine HSP.out.mono ?_
      rintro ee w1 ⟨rfl, hm1, hf1⟩
      have HM1 := Lib.hid (HM.out.step hm1 hf1 (by omega) (by omega))
      have HF1 := Lib.hid hf1
      clear hm1 hf1 c0 c1 c2 c3 c4 c5 c6 c7 c8
      obtain ⟨c0, c1, c2, c3, c4, c5, c6, c7, c8⟩ := HC.out w1 HF1.out.below
      go_wp2_with fail
      refine (HEX.out e ve HE.out HOE.out HNE.out _ outs (used + 1) HM1.out HF1.out.below).mono ?_
      rintro ee w2 hx
      rcases hx with ⟨x2, outs2, used2, rfl, hx2, hm, hu2, ho2, hf, hex⟩ | ⟨hcn, hend⟩
      rotate_left
      · obtain ⟨st, code, o1, u1, rfl, g1, g2⟩ := hend
        exact ⟨rfl, .inr ⟨.inl rfl, st, code, o1, u1, rfl, g1, HF1.out.trans g2⟩⟩
      have HM2 := Lib.hid hm
      have HF2 := Lib.hid (HF1.out.trans hf)
      have HX2 := Lib.hid hex
      have hfu2 := hm.fu
      have hol2 := hm.ol
      clear hm hf hex c0 c1 c2 c3 c4 c5 c6 c7 c8
      obtain ⟨c0, c1, c2, c3, c4, c5, c6, c7, c8⟩ := HC.out w2 HF2.out.below
      go_wp2_with fail
      refine (halt_any x2 hx2 _ HM2.out.m HM2.out.hB (by omega)).mono ?_
      rintro ee w3 ⟨rfl, hm3, hf3⟩
      exact ⟨rfl, .inr ⟨.inl rfl, 3, _, _, used2, rfl, hm3, HF2.out.trans hf3⟩⟩
    · go_enter Tryz.func72, Tryz.ntmps72
      go_wp2_with fail
      refine HSP.out.mono ?_
      rintro ee w1 ⟨rfl, hm1, hf1⟩
      have HM1 := Lib.hid (HM.out.step hm1 hf1 (by omega) (by omega))
      have HF1 := Lib.hid hf1
      clear hm1 hf1 c0 c1 c2 c3 c4 c5 c6 c7 c8
      obtain ⟨c0, c1, c2, c3, c4, c5, c6, c7, c8⟩ := HC.out w1 HF1.out.below
      go_wp2_with fail
      refine (out_any 0 0 _ HM1.out.m HM1.out.hB (by omega)).mono ?_
      rintro ee w2 ⟨rfl, hm2, hf2⟩
      have HM2 := Lib.hid (HM1.out.step hm2 hf2 (by omega) (by rw [List.length_append]; simp only [List.length_cons, List.length_nil]; omega))
      have HF2 := Lib.hid (HF1.out.trans hf2)
      clear hm2 hf2
      go_wp2_with fail
      go_ret
      exact SPost.none (how := 0) (by omega) HM2.out (by omega) (by rw [List.length_append]; simp only [List.length_cons, List.length_nil]; omega) HF2.out
    · go_enter Tryz.func72, Tryz.ntmps72
      go_wp2_with fail
      refine HSP.out.mono ?_
      rintro ee w1 ⟨rfl, hm1, hf1⟩
      have HM1 := Lib.hid (HM.out.step hm1 hf1 (by omega) (by omega))
      have HF1 := Lib.hid hf1
      clear hm1 hf1 c0 c1 c2 c3 c4 c5 c6 c7 c8
      obtain ⟨c0, c1, c2, c3, c4, c5, c6, c7, c8⟩ := HC.out w1 HF1.out.below
      go_wp2_with fail
      go_ret
      exact SPost.none (how := 1) (by omega) HM1.out (by omega) (by omega) HF1.out
    · go_enter Tryz.func72, Tryz.ntmps72
      go_wp2_with fail
      refine HSP.out.mono ?_
      rintro ee w1 ⟨rfl, hm1, hf1⟩
      have HM1 := Lib.hid (HM.out.step hm1 hf1 (by omega) (by omega))
      have HF1 := Lib.hid hf1
      clear hm1 hf1 c0 c1 c2 c3 c4 c5 c6 c7 c8
      obtain ⟨c0, c1, c2, c3, c4, c5, c6, c7, c8⟩ := HC.out w1 HF1.out.below
      go_wp2_with fail
      go_ret
      exact SPost.none (how := 2) (by omega) HM1.out (by omega) (by omega) HF1.out
    · exact absurd rfl h9
  | _ => exact hst.elim

theorem stms_tell {base hi lo : Nat} {L : Places} : ∀ (n : Nat), (∀ a : Ast, a.isStm → a.sz ≤ n → SmC base hi lo L a) := by
  intro n
  induction n with
  | zero => intro a hs hn; cases a <;> first | exact hs.elim | (simp only [Ast.sz] at hn; omega)
  | succ n ih =>
    intro a hs hn
    refine stm_tells a hs fun x hx => list_tells x fun y hy hys => ih y hys ?_
    have := items_sz y hy
    omega
theorem body_tells {base hi lo : Nat} {L : Places} (l : Ast) : LmC base hi lo L l := list_tells l fun y _ hys => stms_tell y.sz y hys (Nat.le_refl _)
end Go.Proofs.YtgjgaeloehfhiaaGreatDoor
