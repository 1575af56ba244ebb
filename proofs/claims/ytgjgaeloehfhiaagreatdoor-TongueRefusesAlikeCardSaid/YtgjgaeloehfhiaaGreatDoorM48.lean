/- Statements are printed, all of them. -/
import Derived.Test.YtgjgaeloehfhiaaGreatDoorM39
import Derived.Test.YtgjgaeloehfhiaaGreatDoorM41
import Derived.Test.YtgjgaeloehfhiaaGreatDoorM10
import Derived.Test.YtgjgaeloehfhiaaGreatDoorM32
import Derived.Test.YtgjgaeloehfhiaaGreatDoorM34
section
namespace Go.Proofs.YtgjgaeloehfhiaaGreatDoor
open Go.RowKit


set_option maxRecDepth 100000 in
set_option maxHeartbeats 6400000 in
theorem prstm_step {N : Nat} (a : Ast) (hst : a.isStm) (hs : ∀ x : Ast, x.isBlk → x.sz < a.sz → StP N 71 (fun _ => 0) x) : StP N 38 (fun _ => 1) a := by
  intro w B b tabs lo hi l0 v hp ha hhi hok hcn htabs hlen
  show Calls Tryz.prog 38 #[.pointer (some ⟨b, 0, none⟩), v] w (PrPost N B b tabs w l0 1 (2000000 * a.sz))
  cases a with
  | stm kd t e f body rest link =>
    have HP0 := Lib.hid hp
    have HW0 := Lib.hid (Below.refl B w)
    have hbb := hp.cell.2.2.2
    have hts : t.text.size ≤ 100000 := hok.1.1
    have hsz : (Ast.stm kd t e f body rest link).sz = 1 + e.sz + f.sz + body.sz + rest.sz := rfl
    have hcall2 : kd = 2 → Calls Tryz.prog 70 #[.pointer (some ⟨b, 0, none⟩), v] w (PrPost N B b tabs w l0 1 (2000000 * (Ast.stm kd t e f body rest link).sz)) := fun h2 =>
      prchoice_any _ (by subst h2; exact ⟨_, _, _, _, _, _, rfl⟩) hs w B b tabs lo hi l0 v hp ha hhi hok hcn htabs hlen
    have H2 := Lib.hid hcall2
    obtain ⟨sb, ve, vf, vb, vr, rfl, h1, h2, hc, he, hf, hbd, -⟩ := ha
    have HC := Lib.hid (StC8.of hc)
    have hsb : sb < B := by omega
    obtain ⟨x0, x2, x5, x6, x7, x8, x9⟩ := HC.out
    have HE := Lib.hid he
    have HF := Lib.hid hf
    have HBD := Lib.hid hbd
    have HS := Lib.hid hs
    have hcb := hcn.2.1
    have HCB := Lib.hid hcb
    have HOK := Lib.hid hok.2
    rw [hsz] at htabs hlen
    have HSZ := Lib.hid hsz
    rw [hsz]
    clear hp hs hc he hf hbd hcn hok hcall2 hcb hsz
    rcases HOK.out with ⟨rfl, hoe, rfl, rfl, rfl, rfl⟩ | ⟨rfl, hoe, hof, rfl, rfl, rfl⟩ | ⟨rfl, -⟩ | ⟨rfl, hoe, rfl, hob, hbk, rfl, rfl⟩ | ⟨rfl | rfl, hoe, rfl, rfl, rfl, rfl⟩ | ⟨rfl | rfl | rfl, rfl, rfl, rfl, rfl, rfl⟩ | ⟨rfl, rfl, rfl, hob, hbk, rfl, rfl⟩
    · have HOE := Lib.hid hoe
      clear hoe
      simp only [Ast.sz] at htabs hlen ⊢
      go_enter Tryz.func38, Tryz.ntmps38
      go_wp2_with fail
      refine wp_region_plan (fun w' => w'.cell? ⟨sb, 2, none⟩ = some (.string t.text) ∧ w'.cell? ⟨sb, 5, none⟩ = some ve)
        [(0, true), (1, true), (2, true), (3, true), (4, true), (5, true), (6, true), (7, true), (8, true), (9, true), (10, true), (11, false), (12, true), (13, true), (14, false)] true (by kernel_rfl) (by kernel_rfl) (fun c a d v w h => by cases d <;> exact h) ⟨x2, x5⟩ ?_
      iterate 11 (refine ⟨_, ?_, rfl, Or.inl ⟨by rfl, ?_⟩, ?_⟩; rotate_left; (· intro w' hSw; (try dsimp only at hSw); go_simp; (try rw [if_neg (by omega)]); (try with_reducible rfl)); simp only [Act.put, List.setIfInBounds_toArray, List.set_cons_zero, List.set_cons_succ, List.getElem_toArray, List.getElem_cons_zero, List.getElem_cons_succ])
      refine wpPlan_act rfl (by rfl) (fun K hK => ?_)
      go_simp
      obtain ⟨hpd, hbd⟩ := drew_pr HP0.out HW0.out
      refine (plain_pr hpd hbd HE.out hhi HOE.out (by omega)).mono ?_
      rintro ee w1 ⟨s1, rfl, hs, hp, hb⟩
      have HP1 := Lib.hid hp
      have HW1 := Lib.hid hb
      have z1 := hs
      clear hp hb hs hpd hbd
      clear x0 x2 x5 x6 x7 x8 x9
      obtain ⟨x0, x2, x5, x6, x7, x8, x9⟩ := HC.out.below HW1.out hsb
      refine hK _ _ (fun _ => ⟨x2, x5⟩) ?_
      clear hK K
      try simp only [Act.put, List.setIfInBounds_toArray, List.set_cons_zero, List.set_cons_succ]
      iterate 2 (refine ⟨_, ?_, rfl, Or.inl ⟨by rfl, ?_⟩, ?_⟩; rotate_left; (· intro w' hSw; (try dsimp only at hSw); go_simp; (try rw [if_neg (by omega)]); (try with_reducible rfl)); simp only [Act.put, List.setIfInBounds_toArray, List.set_cons_zero, List.set_cons_succ, List.getElem_toArray, List.getElem_cons_zero, List.getElem_cons_succ])
      refine wpPlan_act rfl (by rfl) (fun K hK => ?_)
      go_simp
      refine (line_any _ _ _ HP1.out ?_).mono ?_
      · try simp only [ByteArray.size_append', ByteArray.size_mk', List.size_toArray, List.length_cons, List.length_nil]
        omega
      rintro ee w2 ⟨rfl, l2, hp, hl, hu, hb⟩
      try simp only [ByteArray.size_append', ByteArray.size_mk', List.size_toArray, List.length_cons, List.length_nil] at hu
      have HP2 := Lib.hid hp
      have HW2 := Lib.hid (HW1.out.trans hb)
      have lo2 := hl
      have up2 := hu
      clear hp hb hl hu
      clear x0 x2 x5 x6 x7 x8 x9
      refine hK _ _ (fun h => absurd rfl h) ?_
      clear hK K
      refine ⟨rfl, ?_⟩
      go_wp2_with fail
      go_end0
      exact ⟨rfl, l2, HP2.out, by omega, by omega, HW2.out⟩
    · have HOE := Lib.hid hoe
      have HOF := Lib.hid hof
      clear hoe hof
      simp only [Ast.sz] at htabs hlen ⊢
      go_enter Tryz.func38, Tryz.ntmps38
      go_wp2_with fail
      refine wp_region_planS (fun w' => w'.cell? ⟨sb, 2, none⟩ = some (.string t.text) ∧ w'.cell? ⟨sb, 5, none⟩ = some ve ∧ w'.cell? ⟨sb, 6, none⟩ = some vf)
        [(0, true), (1, true), (2, true), (3, true), (4, true), (5, true), (6, true), (7, true), (8, true), (9, true), (10, true), (14, true), (15, true), (16, true), (17, true), (11, false), (12, true), (13, true), (18, false), (19, true), (20, true), (21, false)] (by kernel_rfl) (by kernel_rfl) (fun c a d v w h => by cases d <;> exact h) ⟨x2, x5, x6⟩ ?_
      iterate 15 (refine ⟨_, ?_, rfl, Or.inl ⟨by rfl, ?_⟩, ?_⟩; rotate_left; (· intro w' hSw; (try dsimp only at hSw); go_simp; (try rw [if_neg (by omega)]); (try with_reducible rfl)); simp only [Act.put, List.setIfInBounds_toArray, List.set_cons_zero, List.set_cons_succ, List.getElem_toArray, List.getElem_cons_zero, List.getElem_cons_succ])
      refine wpPlanS_act rfl (by rfl) (fun K hK => ?_)
      go_simp
      obtain ⟨hpd, hbd⟩ := drew_pr HP0.out HW0.out
      refine (plain_pr hpd hbd HE.out hhi HOE.out (by omega)).mono ?_
      rintro ee w1 ⟨s1, rfl, hs, hp, hb⟩
      have HP1 := Lib.hid hp
      have HW1 := Lib.hid hb
      have z1 := hs
      clear hp hb hs hpd hbd
      clear x0 x2 x5 x6 x7 x8 x9
      obtain ⟨x0, x2, x5, x6, x7, x8, x9⟩ := HC.out.below HW1.out hsb
      refine hK _ _ ⟨x2, x5, x6⟩ ?_
      clear hK K
      try simp only [Act.put, List.setIfInBounds_toArray, List.set_cons_zero, List.set_cons_succ]
      iterate 2 (refine ⟨_, ?_, rfl, Or.inl ⟨by rfl, ?_⟩, ?_⟩; rotate_left; (· intro w' hSw; (try dsimp only at hSw); go_simp; (try rw [if_neg (by omega)]); (try with_reducible rfl)); simp only [Act.put, List.setIfInBounds_toArray, List.set_cons_zero, List.set_cons_succ, List.getElem_toArray, List.getElem_cons_zero, List.getElem_cons_succ])
      refine wpPlanS_act rfl (by rfl) (fun K hK => ?_)
      go_simp
      refine (plain_pr HP1.out HW1.out HF.out hhi HOF.out (by omega)).mono ?_
      rintro ee w2 ⟨s2, rfl, hs, hp, hb⟩
      have HP2 := Lib.hid hp
      have HW2 := Lib.hid hb
      have z2 := hs
      clear hp hb hs
      clear x0 x2 x5 x6 x7 x8 x9
      obtain ⟨x0, x2, x5, x6, x7, x8, x9⟩ := HC.out.below HW2.out hsb
      refine hK _ _ ⟨x2, x5, x6⟩ ?_
      clear hK K
      try simp only [Act.put, List.setIfInBounds_toArray, List.set_cons_zero, List.set_cons_succ]
      iterate 2 (refine ⟨_, ?_, rfl, Or.inl ⟨by rfl, ?_⟩, ?_⟩; rotate_left; (· intro w' hSw; (try dsimp only at hSw); go_simp; (try rw [if_neg (by omega)]); (try with_reducible rfl)); simp only [Act.put, List.setIfInBounds_toArray, List.set_cons_zero, List.set_cons_succ, List.getElem_toArray, List.getElem_cons_zero, List.getElem_cons_succ])
      refine wpPlanS_act rfl (by rfl) (fun K hK => ?_)
      go_simp
      refine (line_any _ _ _ HP2.out ?_).mono ?_
      · try simp only [ByteArray.size_append', ByteArray.size_mk', List.size_toArray, List.length_cons, List.length_nil]
        omega
      rintro ee w3 ⟨rfl, l3, hp, hl, hu, hb⟩
      try simp only [ByteArray.size_append', ByteArray.size_mk', List.size_toArray, List.length_cons, List.length_nil] at hu
      have HP3 := Lib.hid hp
      have HW3 := Lib.hid (HW2.out.trans hb)
      have lo3 := hl
      have up3 := hu
      clear hp hb hl hu
      clear x0 x2 x5 x6 x7 x8 x9
      obtain ⟨x0, x2, x5, x6, x7, x8, x9⟩ := HC.out.below HW3.out hsb
      refine hK _ _ ⟨x2, x5, x6⟩ ?_
      clear hK K
      go_wp2_with fail
      go_end0
      exact ⟨rfl, l3, HP3.out, by omega, by omega, HW3.out⟩
    · have h70 := H2.out rfl
      have H70 := Lib.hid h70
      clear h70 H2
      go_enter Tryz.func38, Tryz.ntmps38
      go_wp2_with fail
      refine H70.out.mono ?_
      rintro ee w1 hp
      obtain ⟨rfl, hp2⟩ := hp
      have HR := Lib.hid hp2
      clear hp2
      go_wp2_with fail
      go_end0
      rw [HSZ.out] at HR
      exact ⟨rfl, HR.out⟩
    · have HOE := Lib.hid hoe
      have HOB := Lib.hid hob
      have HIN := Lib.hid (HS.out body hbk (by rw [HSZ.out]; simp only [Ast.sz]; omega))
      clear hoe hob hbk
      simp only [Ast.sz] at htabs hlen ⊢
      go_enter Tryz.func38, Tryz.ntmps38
      go_wp2_with fail
      all_goals try omega
      refine (plain_pr HP0.out HW0.out HE.out hhi HOE.out (by omega)).mono ?_
      rintro ee w1 ⟨s1, rfl, hs, hp, hb⟩
      have HP1 := Lib.hid hp
      have HW1 := Lib.hid hb
      have z1 := hs
      clear hp hb hs
      clear x0 x2 x5 x6 x7 x8 x9
      obtain ⟨x0, x2, x5, x6, x7, x8, x9⟩ := HC.out.below HW1.out hsb
      go_wp2_with fail
      all_goals try omega
      refine (line_any _ _ _ HP1.out ?_).mono ?_
      · try simp only [ByteArray.size_append', ByteArray.size_mk', List.size_toArray, List.length_cons, List.length_nil]
        omega
      rintro ee w2 ⟨rfl, l2, hp, hl, hu, hb⟩
      try simp only [ByteArray.size_append', ByteArray.size_mk', List.size_toArray, List.length_cons, List.length_nil] at hu
      have HP2 := Lib.hid hp
      have HW2 := Lib.hid (HW1.out.trans hb)
      have lo2 := hl
      have up2 := hu
      clear hp hb hl hu
      clear x0 x2 x5 x6 x7 x8 x9
      obtain ⟨x0, x2, x5, x6, x7, x8, x9⟩ := HC.out.below HW2.out hsb
      go_wp2_with fail
      all_goals try omega
      refine (StP.at HIN.out HP2.out HW2.out HBD.out hhi HOB.out HCB.out (by omega) (by omega)).mono ?_
      rintro ee w3 ⟨rfl, l3, hp, hl, hu, hb⟩
      have HP3 := Lib.hid hp
      have HW3 := Lib.hid (HW2.out.trans hb)
      have lo3 := hl
      have up3 := hu
      clear hp hb hl hu
      clear x0 x2 x5 x6 x7 x8 x9
      obtain ⟨x0, x2, x5, x6, x7, x8, x9⟩ := HC.out.below HW3.out hsb
      go_wp2_with fail
      all_goals try omega
      refine (line_any _ _ _ HP3.out ?_).mono ?_
      · try simp only [ByteArray.size_mk', List.size_toArray, List.length_cons, List.length_nil]
        omega
      rintro ee w4 ⟨rfl, l4, hp, hl, hu, hb⟩
      try simp only [ByteArray.size_mk', List.size_toArray, List.length_cons, List.length_nil] at hu
      have HP4 := Lib.hid hp
      have HW4 := Lib.hid (HW3.out.trans hb)
      have lo4 := hl
      have up4 := hu
      clear hp hb hl hu
      clear x0 x2 x5 x6 x7 x8 x9
      obtain ⟨x0, x2, x5, x6, x7, x8, x9⟩ := HC.out.below HW4.out hsb
      go_wp2_with fail
      go_end0
      exact ⟨rfl, l4, HP4.out, by omega, by omega, HW4.out⟩
    · have HOE := Lib.hid hoe
      clear hoe
      simp only [Ast.sz] at htabs hlen ⊢
      go_enter Tryz.func38, Tryz.ntmps38
      go_wp2_with fail
      refine wp_region_plan (fun w' => w'.cell? ⟨sb, 2, none⟩ = some (.string t.text) ∧ w'.cell? ⟨sb, 5, none⟩ = some ve)
        [(0, true), (1, true), (2, true), (3, true), (4, true), (5, true), (6, true), (7, true), (8, true), (9, true), (10, true), (11, false), (12, true), (13, true), (14, false)] true (by kernel_rfl) (by kernel_rfl) (fun c a d v w h => by cases d <;> exact h) ⟨x2, x5⟩ ?_
      iterate 11 (refine ⟨_, ?_, rfl, Or.inl ⟨by rfl, ?_⟩, ?_⟩; rotate_left; (· intro w' hSw; (try dsimp only at hSw); go_simp; (try rw [if_neg (by omega)]); (try with_reducible rfl)); simp only [Act.put, List.setIfInBounds_toArray, List.set_cons_zero, List.set_cons_succ, List.getElem_toArray, List.getElem_cons_zero, List.getElem_cons_succ])
      refine wpPlan_act rfl (by rfl) (fun K hK => ?_)
      go_simp
      obtain ⟨hpd, hbd⟩ := drew_pr HP0.out HW0.out
      refine (plain_pr hpd hbd HE.out hhi HOE.out (by omega)).mono ?_
      rintro ee w1 ⟨s1, rfl, hs, hp, hb⟩
      have HP1 := Lib.hid hp
      have HW1 := Lib.hid hb
      have z1 := hs
      clear hp hb hs hpd hbd
      clear x0 x2 x5 x6 x7 x8 x9
      obtain ⟨x0, x2, x5, x6, x7, x8, x9⟩ := HC.out.below HW1.out hsb
      refine hK _ _ (fun _ => ⟨x2, x5⟩) ?_
      clear hK K
      try simp only [Act.put, List.setIfInBounds_toArray, List.set_cons_zero, List.set_cons_succ]
      iterate 2 (refine ⟨_, ?_, rfl, Or.inl ⟨by rfl, ?_⟩, ?_⟩; rotate_left; (· intro w' hSw; (try dsimp only at hSw); go_simp; (try rw [if_neg (by omega)]); (try with_reducible rfl)); simp only [Act.put, List.setIfInBounds_toArray, List.set_cons_zero, List.set_cons_succ, List.getElem_toArray, List.getElem_cons_zero, List.getElem_cons_succ])
      refine wpPlan_act rfl (by rfl) (fun K hK => ?_)
      go_simp
      refine (line_any _ _ _ HP1.out ?_).mono ?_
      · try simp only [ByteArray.size_append', ByteArray.size_mk', List.size_toArray, List.length_cons, List.length_nil]
        omega
      rintro ee w2 ⟨rfl, l2, hp, hl, hu, hb⟩
      try simp only [ByteArray.size_append', ByteArray.size_mk', List.size_toArray, List.length_cons, List.length_nil] at hu
      have HP2 := Lib.hid hp
      have HW2 := Lib.hid (HW1.out.trans hb)
      have lo2 := hl
      have up2 := hu
      clear hp hb hl hu
      clear x0 x2 x5 x6 x7 x8 x9
      refine hK _ _ (fun h => absurd rfl h) ?_
      clear hK K
      refine ⟨rfl, ?_⟩
      go_wp2_with fail
      go_end0
      exact ⟨rfl, l2, HP2.out, by omega, by omega, HW2.out⟩
    · have HOE := Lib.hid hoe
      clear hoe
      simp only [Ast.sz] at htabs hlen ⊢
      go_enter Tryz.func38, Tryz.ntmps38
      go_wp2_with fail
      refine wp_region_plan (fun w' => w'.cell? ⟨sb, 2, none⟩ = some (.string t.text) ∧ w'.cell? ⟨sb, 5, none⟩ = some ve)
        [(0, true), (1, true), (2, true), (3, true), (4, true), (5, true), (6, true), (7, true), (8, true), (9, true), (10, true), (11, false), (12, true), (13, true), (14, false)] true (by kernel_rfl) (by kernel_rfl) (fun c a d v w h => by cases d <;> exact h) ⟨x2, x5⟩ ?_
      iterate 11 (refine ⟨_, ?_, rfl, Or.inl ⟨by rfl, ?_⟩, ?_⟩; rotate_left; (· intro w' hSw; (try dsimp only at hSw); go_simp; (try rw [if_neg (by omega)]); (try with_reducible rfl)); simp only [Act.put, List.setIfInBounds_toArray, List.set_cons_zero, List.set_cons_succ, List.getElem_toArray, List.getElem_cons_zero, List.getElem_cons_succ])
      refine wpPlan_act rfl (by rfl) (fun K hK => ?_)
      go_simp
      obtain ⟨hpd, hbd⟩ := drew_pr HP0.out HW0.out
      refine (plain_pr hpd hbd HE.out hhi HOE.out (by omega)).mono ?_
      rintro ee w1 ⟨s1, rfl, hs, hp, hb⟩
      have HP1 := Lib.hid hp
      have HW1 := Lib.hid hb
      have z1 := hs
      clear hp hb hs hpd hbd
      clear x0 x2 x5 x6 x7 x8 x9
      obtain ⟨x0, x2, x5, x6, x7, x8, x9⟩ := HC.out.below HW1.out hsb
      refine hK _ _ (fun _ => ⟨x2, x5⟩) ?_
      clear hK K
      try simp only [Act.put, List.setIfInBounds_toArray, List.set_cons_zero, List.set_cons_succ]
      iterate 2 (refine ⟨_, ?_, rfl, Or.inl ⟨by rfl, ?_⟩, ?_⟩; rotate_left; (· intro w' hSw; (try dsimp only at hSw); go_simp; (try rw [if_neg (by omega)]); (try with_reducible rfl)); simp only [Act.put, List.setIfInBounds_toArray, List.set_cons_zero, List.set_cons_succ, List.getElem_toArray, List.getElem_cons_zero, List.getElem_cons_succ])
      refine wpPlan_act rfl (by rfl) (fun K hK => ?_)
      go_simp
      refine (line_any _ _ _ HP1.out ?_).mono ?_
      · try simp only [ByteArray.size_append', ByteArray.size_mk', List.size_toArray, List.length_cons, List.length_nil]
        omega
      rintro ee w2 ⟨rfl, l2, hp, hl, hu, hb⟩
      try simp only [ByteArray.size_append', ByteArray.size_mk', List.size_toArray, List.length_cons, List.length_nil] at hu
      have HP2 := Lib.hid hp
      have HW2 := Lib.hid (HW1.out.trans hb)
      have lo2 := hl
      have up2 := hu
      clear hp hb hl hu
      clear x0 x2 x5 x6 x7 x8 x9
      refine hK _ _ (fun h => absurd rfl h) ?_
      clear hK K
      refine ⟨rfl, ?_⟩
      go_wp2_with fail
      go_end0
      exact ⟨rfl, l2, HP2.out, by omega, by omega, HW2.out⟩
    · simp only [Ast.sz] at htabs hlen ⊢
      go_enter Tryz.func38, Tryz.ntmps38
      go_wp2_with fail
      all_goals try omega
      refine (line_any _ _ _ HP0.out ?_).mono ?_
      · try simp only [ByteArray.size_append', ByteArray.size_mk', List.size_toArray, List.length_cons, List.length_nil]
        omega
      rintro ee w1 ⟨rfl, l1, hp, hl, hu, hb⟩
      try simp only [ByteArray.size_append', ByteArray.size_mk', List.size_toArray, List.length_cons, List.length_nil] at hu
      have HP1 := Lib.hid hp
      have HW1 := Lib.hid (HW0.out.trans hb)
      have lo1 := hl
      have up1 := hu
      clear hp hb hl hu
      clear x0 x2 x5 x6 x7 x8 x9
      obtain ⟨x0, x2, x5, x6, x7, x8, x9⟩ := HC.out.below HW1.out hsb
      go_wp2_with fail
      go_end0
      exact ⟨rfl, l1, HP1.out, by omega, by omega, HW1.out⟩
    · simp only [Ast.sz] at htabs hlen ⊢
      go_enter Tryz.func38, Tryz.ntmps38
      go_wp2_with fail
      all_goals try omega
      refine (line_any _ _ _ HP0.out ?_).mono ?_
      · try simp only [ByteArray.size_append', ByteArray.size_mk', List.size_toArray, List.length_cons, List.length_nil]
        omega
      rintro ee w1 ⟨rfl, l1, hp, hl, hu, hb⟩
      try simp only [ByteArray.size_append', ByteArray.size_mk', List.size_toArray, List.length_cons, List.length_nil] at hu
      have HP1 := Lib.hid hp
      have HW1 := Lib.hid (HW0.out.trans hb)
      have lo1 := hl
      have up1 := hu
      clear hp hb hl hu
      clear x0 x2 x5 x6 x7 x8 x9
      obtain ⟨x0, x2, x5, x6, x7, x8, x9⟩ := HC.out.below HW1.out hsb
      go_wp2_with fail
      go_end0
      exact ⟨rfl, l1, HP1.out, by omega, by omega, HW1.out⟩
    · simp only [Ast.sz] at htabs hlen ⊢
      go_enter Tryz.func38, Tryz.ntmps38
      go_wp2_with fail
      all_goals try omega
      refine (line_any _ _ _ HP0.out ?_).mono ?_
      · try simp only [ByteArray.size_append', ByteArray.size_mk', List.size_toArray, List.length_cons, List.length_nil]
        omega
      rintro ee w1 ⟨rfl, l1, hp, hl, hu, hb⟩
      try simp only [ByteArray.size_append', ByteArray.size_mk', List.size_toArray, List.length_cons, List.length_nil] at hu
      have HP1 := Lib.hid hp
      have HW1 := Lib.hid (HW0.out.trans hb)
      have lo1 := hl
      have up1 := hu
      clear hp hb hl hu
      clear x0 x2 x5 x6 x7 x8 x9
      obtain ⟨x0, x2, x5, x6, x7, x8, x9⟩ := HC.out.below HW1.out hsb
      go_wp2_with fail
      go_end0
      exact ⟨rfl, l1, HP1.out, by omega, by omega, HW1.out⟩
    · have HOB := Lib.hid hob
      have HIN := Lib.hid (HS.out body hbk (by rw [HSZ.out]; simp only [Ast.sz]; omega))
      clear hob hbk
      simp only [Ast.sz] at htabs hlen ⊢
      go_enter Tryz.func38, Tryz.ntmps38
      go_wp2_with fail
      all_goals try omega
      refine (line_any _ _ _ HP0.out ?_).mono ?_
      · try simp only [ByteArray.size_mk', List.size_toArray, List.length_cons, List.length_nil]
        omega
      rintro ee w1 ⟨rfl, l1, hp, hl, hu, hb⟩
      try simp only [ByteArray.size_mk', List.size_toArray, List.length_cons, List.length_nil] at hu
      have HP1 := Lib.hid hp
      have HW1 := Lib.hid (HW0.out.trans hb)
      have lo1 := hl
      have up1 := hu
      clear hp hb hl hu
      clear x0 x2 x5 x6 x7 x8 x9
      obtain ⟨x0, x2, x5, x6, x7, x8, x9⟩ := HC.out.below HW1.out hsb
      go_wp2_with fail
      all_goals try omega
      refine (StP.at HIN.out HP1.out HW1.out HBD.out hhi HOB.out HCB.out (by omega) (by omega)).mono ?_
      rintro ee w2 ⟨rfl, l2, hp, hl, hu, hb⟩
      have HP2 := Lib.hid hp
      have HW2 := Lib.hid (HW1.out.trans hb)
      have lo2 := hl
      have up2 := hu
      clear hp hb hl hu
      clear x0 x2 x5 x6 x7 x8 x9
      obtain ⟨x0, x2, x5, x6, x7, x8, x9⟩ := HC.out.below HW2.out hsb
      go_wp2_with fail
      all_goals try omega
      refine (line_any _ _ _ HP2.out ?_).mono ?_
      · try simp only [ByteArray.size_mk', List.size_toArray, List.length_cons, List.length_nil]
        omega
      rintro ee w3 ⟨rfl, l3, hp, hl, hu, hb⟩
      try simp only [ByteArray.size_mk', List.size_toArray, List.length_cons, List.length_nil] at hu
      have HP3 := Lib.hid hp
      have HW3 := Lib.hid (HW2.out.trans hb)
      have lo3 := hl
      have up3 := hu
      clear hp hb hl hu
      clear x0 x2 x5 x6 x7 x8 x9
      obtain ⟨x0, x2, x5, x6, x7, x8, x9⟩ := HC.out.below HW3.out hsb
      go_wp2_with fail
      go_end0
      exact ⟨rfl, l3, HP3.out, by omega, by omega, HW3.out⟩
  | _ => exact hst.elim

theorem prstm_any {N : Nat} : ∀ (n : Nat) (a : Ast), a.isStm → a.sz ≤ n → StP N 38 (fun _ => 1) a := by
  intro n
  induction n with
  | zero =>
    intro a hs hn
    cases a <;> first | exact hs.elim | (simp only [Ast.sz] at hn; omega)
  | succ n ih =>
    intro a hs hn
    refine prstm_step a hs fun x hx hsz => ?_
    cases x with
    | blk ln L =>
      intro w B b tabs lo hi l0 v hp ha hhi hok hcn htabs hlen
      have hL : L.isL := (okS_blk hok).2
      exact prinner_any ln L (prlist_any L (fun y hy hys => ih y hys (by have := items_sz y hy; simp only [Ast.sz] at hsz; omega)) hL) w B b tabs lo hi l0 v hp ha hhi hok hcn htabs hlen
    | _ => exact hx.elim
theorem prbody_any {N : Nat} (L : Ast) (hL : L.isL) : StP N 18 (fun a => a.items.length) L := prlist_any L (fun y _ hys => prstm_any y.sz y hys (Nat.le_refl _)) hL
end Go.Proofs.YtgjgaeloehfhiaaGreatDoor
end
section
/- The text of a program. -/
namespace Go.Proofs.YtgjgaeloehfhiaaGreatDoor
open Go.RowKit


set_option maxHeartbeats 3200000 in
set_option maxRecDepth 100000 in
theorem string_zero {B b : Nat} {T : TypeId} {ex : List Value} (w : World) (h : Bld w B b T ex []) (hB : B ≤ w.heap.size) :
    Calls Tryz.prog 19 #[.pointer (some ⟨b, 0, none⟩)] w fun e w' => e = .returned (.string ⟨#[]⟩) ∧ Below B w w' := by
  obtain ⟨p, v, -, hP⟩ := h
  rcases hP.row.2 with ⟨rfl, -⟩ | ⟨g, cap, cur, rfl, hbg, hg, hnc, hcm, hcs, -⟩
  · exact string_nil w hP.cells
  · have hUS : ∀ (W : World) (q : Option Addr), (Builtin.unsafeString_ #[121, 3] 9 #[.pointer q, .int .i64 0]).run Tryz.prog W = .ok (.string .empty) W := fun W q => Lib.run_unsafeString_none W _ _ _ q
    have c1 : w.drew.cell? ⟨b, 1, none⟩ = some (.slice (some ⟨g, 0, none⟩) 0 cap) := cell_of_heap (o := 1) hP.cells
    by_cases hc : cap = 0
    · subst hc
      have hSD : (Builtin.unsafeSliceData_ #[59] 121 #[.slice (some ⟨g, 0, none⟩) 0 0]).run Tryz.prog w.drew = .ok (.pointer (some ⟨w.drew.heap.size, 0, none⟩)) (w.drew.alloc (.view ⟨g, 0, none⟩ 5)) :=
        Lib.run_unsafeSliceData_zero w.drew _ _ 5 Tryz.underlying121 ⟨g, 0, none⟩ 0 (5, cur.size) (by have hg' : w.drew.heap[g]? = some (.cells cur 5 (0, 0)) := hg; simp [World.shape?, hg'])
      have hbb := (cells_of_heap hP.cells).2.2
      have c2 : (w.drew.alloc (.view ⟨g, 0, none⟩ 5)).cell? ⟨b, 1, none⟩ = some (.slice (some ⟨g, 0, none⟩) 0 0) := by
        rw [((Ext.refl w.drew).alloc _).cell b 1 hbb]; exact c1
      have c3 : w.cell? ⟨b, 1, none⟩ = some (.slice (some ⟨g, 0, none⟩) 0 0) := cell_of_heap (o := 1) hP.cells
      clear hP hg hcs
      go_enter Tryz.func19, Tryz.ntmps19
      go_wp2
      go_region
      all_goals (go_wp2; go_ret; exact ⟨rfl, (Below.drew (Below.refl B w)).trans (((Ext.refl w.drew).alloc _).belowB hB)⟩)
    · have hSD : (Builtin.unsafeSliceData_ #[59] 121 #[.slice (some ⟨g, 0, none⟩) 0 cap]).run Tryz.prog w.drew = .ok (.pointer (some ⟨g, 0, none⟩)) w.drew := Lib.run_unsafeSliceData_row _ _ _ _ _ _ hc
      clear hP hg hcs
      go_enter Tryz.func19, Tryz.ntmps19
      go_wp2
      go_region
      all_goals (go_wp2; go_ret; exact ⟨rfl, Below.drew (Below.refl B w)⟩)

theorem string_some {B b : Nat} {T : TypeId} {ex : List Value} {l : List UInt8} (w : World) (h : Bld w B b T ex l) (hB : B ≤ w.heap.size) :
    Calls Tryz.prog 19 #[.pointer (some ⟨b, 0, none⟩)] w fun e w' => ∃ s, e = .returned (.string s) ∧ Below B w w' := by
  cases l with
  | nil => exact (string_zero w h hB).mono fun e w' q => ⟨_, q.1, q.2⟩
  | cons x l => exact (string_any w h (by simp) hB).mono fun e w' q => ⟨_, q.1, q.2⟩

/-- What Format leaves. -/
def FmtPost (w : World) : Except (Nat × Nat) UnitF → Ending → World → Prop
  | .error (ln, code), e, w' => e = .returned (.tuple #[.string ⟨#[]⟩, .int .i64 ln, .int .i64 code]) ∧ Ext w w'
  | .ok _, e, w' => ∃ s, e = .returned (.tuple #[.string s, .int .i64 0, .int .i64 0]) ∧ Ext w w'

/-- The loop over declarations. -/
def FmtRel (N : Nat) (w1 : World) (k : Nat) (wr : World) : Prop := ∃ l' : List UInt8, PrIn N w1.heap.size w1.heap.size 0 wr l' ∧ l'.length ≤ 200000 * k ∧ Below w1.heap.size w1 wr

set_option maxRecDepth 100000 in
set_option maxHeartbeats 12800000 in
theorem format_any {N : Nat} (s : ByteArray) (hs : s.size ≤ maxLen) (w : World) (hG : Gl N w) (hC : Cb N w) (hT : Tb N w) (hN : N ≤ w.heap.size) : Calls Tryz.prog 7 #[.string s] w (FmtPost w (takenF s)) := by
  have htk := taken_any s hs w hG hC hN
  have hgood := fun u (h : takenF s = .ok u) => takenF_good h
  have hcode := fun ln code (h : takenF s = .error (ln, code)) => (takenF_err h).1
  have HTK := Lib.hid htk
  have HG := Lib.hid hG
  have HT := Lib.hid hT
  have HGOOD := Lib.hid hgood
  have HCODE := Lib.hid hcode
  clear htk hG hC hT hgood hcode
  generalize takenF s = R at *
  go_enter Tryz.func7, Tryz.ntmps7
  go_wp2_with fail
  refine HTK.out.mono ?_
  rintro e w1 hp
  cases R with
  | error q =>
    obtain ⟨ln, code⟩ := q
    obtain ⟨rfl, hE⟩ := hp
    have HE := Lib.hid hE
    have hc := HCODE.out _ _ rfl
    have hne : ((code : Int) != 0) = true := by rw [bne_iff_ne]; omega
    clear hE hc
    go_wp2_with fail
    go_ret3
    exact ⟨rfl, HE.out⟩
  | ok u =>
    obtain ⟨ub, rfl, hE, hu⟩ := hp
    obtain ⟨pb, mpb, n, vd, vb, cv, h1, h2, h3, h4, h5, h6, h7, h8⟩ := hu.ex
    obtain ⟨-, -, -, -, hbok, hbl, hbz, -, -, -, hdk, hdl, -, hrd⟩ := HGOOD.out u rfl
    have hbn : u.body.chn := chn_items hbl (readF_chn hrd)
    obtain ⟨da, dc, rfl, -, hdel⟩ := h3
    have c0 := cell_of_heap (o := 0) h1
    have p0 := cell_of_heap (o := 0) h2
    have p1 := cell_of_heap (o := 1) h2
    simp only [List.getElem?_toArray, List.getElem?_cons_zero, List.getElem?_cons_succ] at c0 p0 p1
    have x1 := hE.size
    have hub := heap_lt h1
    have hpb := heap_lt h2
    have HE := Lib.hid hE
    have HDEL := Lib.hid hdel
    have HDK := Lib.hid hdk
    have HBD := Lib.hid h4
    have HBOK := Lib.hid hbok
    have HBN := Lib.hid hbn
    have HLS := Lib.hid (prbody_any (N := N) u.body hbl)
    have hdl2 := hdl
    have HGN := Lib.hid (HG.out.ext hE)
    have HTN := Lib.hid (HT.out.ext hE)
    have HC0 := Lib.hid c0
    have HP0 := Lib.hid p0
    have HP1 := Lib.hid p1
    clear hE hu h1 h2 h4 h5 h6 h7 h8 hdel hdk HTK HCODE HGOOD hbok hbl hrd hbn hdl
    generalize u.ds = ds at *
    generalize u.body = body at *
    clear HG HT
    go_wp2_with fail
    go_loopw [31] (fun i wr => ∃ k : Nat, k ≤ ds.length ∧ i = .int .i64 k ∧ Hid (FmtRel N w1 k wr)) (fun i _ => ds.length - (intOf i).toNat)
    case atStart =>
      refine ⟨0, by omega, rfl, Lib.hid ⟨[], ⟨⟨.pointer none, .slice none 0 0, .inl rfl, ⟨by rw [heapA, if_pos rfl]; rfl, Nat.le_refl _, World.ownsRow_nil _ _ _ _, .inr ⟨rfl, 0, rfl⟩⟩⟩, by rw [szA]; omega, HGN.out.ext ((Ext.refl w1).alloc _), HTN.out.ext ((Ext.refl w1).alloc _), by omega⟩, by simp, ((Ext.refl w1).alloc _).below⟩⟩
    case round =>
      obtain ⟨k, hk, rfl, HR⟩ := hrel
      clear c0 p0 p1
      by_cases hlt : k < ds.length
      · obtain ⟨g, rfl, -, hg, d0, d1, d2, d3, d4⟩ := HDEL.out k hlt
        have hdk := HDK.out (ds.getD k default) (by rw [List.getD_eq_getElem?_getD, List.getElem?_eq_getElem hlt]; exact List.getElem_mem hlt)
        generalize ds.getD k default = d at *
        obtain ⟨⟨kind, text, line, num⟩, size⟩ := d
        obtain ⟨⟨hf1, -⟩, hf2⟩ := hdk
        simp only at d0 d1 d2 d3 d4 hf1 hf2
        obtain ⟨l1, hp1, hl1, hbl⟩ := HR.out
        have q0 := (hbl.cell (p := ⟨g, k * 5, none⟩) hg).trans d0
        have q1 := (hbl.cell (p := ⟨g, k * 5 + 1, none⟩) hg).trans d1
        have q2 := (hbl.cell (p := ⟨g, k * 5 + 2, none⟩) hg).trans d2
        have q3 := (hbl.cell (p := ⟨g, k * 5 + 3, none⟩) hg).trans d3
        have q4 := (hbl.cell (p := ⟨g, k * 5 + 4, none⟩) hg).trans d4
        have hkz : 200000 * k ≤ 20000000000 := by omega
        have HP2 := Lib.hid (hp1.ext ((Ext.refl wr).alloc (.cells #[.int .i64 kind, .string text, .int .i64 line, .int .u32 num, .int .u32 size] 71)))
        have HW2 := Lib.hid (hbl.trans (((Ext.refl wr).alloc (.cells #[.int .i64 kind, .string text, .int .i64 line, .int .u32 num, .int .u32 size] 71)).belowB hp1.hB))
        have hfl := run_field82_0
        clear d0 d1 d2 d3 d4 hp1 hbl HR
        by_cases hz : size = 0
        · subst hz
          go_wp2_with fail
          all_goals try omega
          refine (line_any _ _ _ HP2.out ?_).mono ?_
          · try simp only [ByteArray.size_append', ByteArray.size_mk', List.size_toArray, List.length_cons, List.length_nil]
            omega
          rintro ee w3 ⟨rfl, l3, hp, hl, hu, hb⟩
          try simp only [ByteArray.size_append', ByteArray.size_mk', List.size_toArray, List.length_cons, List.length_nil] at hu
          have HL : Hid (FmtRel N w1 (k + 1) w3) := ⟨l3, hp, by omega, HW2.out.trans hb⟩
          clear hp hb
          go_wp2_with fail
          all_goals exact ⟨⟨k + 1, by omega, by go_num, HL⟩, by simp [intOf]; omega⟩
        · have hgt : decide ((size : Int) > 0) = true := by simp; omega
          have hgt2 : decide ((0 : Int) < (size : Int)) = true := by simp; omega
          have hwi : IntKind.i64.wrap (size : Int) = (size : Int) := IntWalk.i64_in _ (by omega)
          have s1 : ∀ w', Ext (wr.alloc (.cells #[.int .i64 kind, .string text, .int .i64 line, .int .u32 num, .int .u32 size] 71)) w' → w'.cell? ⟨wr.heap.size, 1, none⟩ = some (.string text) ∧ w'.cell? ⟨wr.heap.size, 4, none⟩ = some (.int .u32 size) := fun w' hE' => by
            have hb := (hE'.block wr.heap.size (by rw [szA]; omega)).trans (show (wr.alloc (.cells #[.int .i64 kind, .string text, .int .i64 line, .int .u32 num, .int .u32 size] 71)).heap[wr.heap.size]? = _ from by rw [heapA, if_pos rfl])
            exact ⟨cell_of_heap (o := 1) hb, cell_of_heap (o := 4) hb⟩
          have HS1 := Lib.hid s1
          clear s1
          go_wp2_with fail
          refine wp_region_plan (fun w' => w'.cell? ⟨wr.heap.size, 1, none⟩ = some (.string text) ∧ w'.cell? ⟨wr.heap.size, 4, none⟩ = some (.int .u32 size))
            [(0, true), (1, true), (2, true), (3, true), (4, true), (5, true), (6, true), (7, true), (8, true), (9, false), (10, true), (11, true), (12, false)] true (by kernel_rfl) (by kernel_rfl) (fun c a d v w h => by cases d <;> exact h) (HS1.out _ (Ext.refl _).drew) ?_
          iterate 9 (refine ⟨_, ?_, rfl, Or.inl ⟨by rfl, ?_⟩, ?_⟩; rotate_left; (· intro w' hSw; (try dsimp only at hSw); go_simp; (try rw [if_neg (by omega)]); (try with_reducible rfl)); simp only [Act.put, List.setIfInBounds_toArray, List.set_cons_zero, List.set_cons_succ, List.getElem_toArray, List.getElem_cons_zero, List.getElem_cons_succ])
          refine wpPlan_act rfl (by rfl) (fun K hK => ?_)
          go_simp
          refine (itoa_any (size : Int) (by omega) (by omega) _ (HP2.out.ext (Ext.refl _).drew).tb).mono ?_
          rintro ee w3 ⟨rfl, hE3⟩
          have hzi : (⟨(Lib.itoa (size : Int)).toArray⟩ : ByteArray).size ≤ 10 := by rw [ByteArray.size_mk', List.size_toArray, Lib.itoa_nonneg]; exact dec_len 9 size (by omega)
          generalize (⟨(Lib.itoa (size : Int)).toArray⟩ : ByteArray) = si at *
          have hE4 := (Ext.refl (wr.alloc (.cells #[.int .i64 kind, .string text, .int .i64 line, .int .u32 num, .int .u32 size] 71))).drew.trans hE3
          have HP3 := Lib.hid (HP2.out.ext hE4)
          have HW3 := Lib.hid (HW2.out.trans (hE4.belowB HP2.out.hB))
          refine hK _ _ (fun _ => HS1.out _ hE4) ?_
          clear hK K hE3 hE4
          try simp only [Act.put, List.setIfInBounds_toArray, List.set_cons_zero, List.set_cons_succ]
          iterate 2 (refine ⟨_, ?_, rfl, Or.inl ⟨by rfl, ?_⟩, ?_⟩; rotate_left; (· intro w' hSw; (try dsimp only at hSw); go_simp; (try rw [if_neg (by omega)]); (try with_reducible rfl)); simp only [Act.put, List.setIfInBounds_toArray, List.set_cons_zero, List.set_cons_succ, List.getElem_toArray, List.getElem_cons_zero, List.getElem_cons_succ])
          refine wpPlan_act rfl (by rfl) (fun K hK => ?_)
          go_simp
          refine (line_any _ _ _ HP3.out ?_).mono ?_
          · try simp only [ByteArray.size_append', ByteArray.size_mk', List.size_toArray, List.length_cons, List.length_nil]
            omega
          rintro ee w4 ⟨rfl, l4, hp, hl, hu, hb⟩
          try simp only [ByteArray.size_append', ByteArray.size_mk', List.size_toArray, List.length_cons, List.length_nil] at hu
          have HL : Hid (FmtRel N w1 (k + 1) w4) := ⟨l4, hp, by omega, HW3.out.trans hb⟩
          clear hp hb
          refine hK _ _ (fun h => absurd rfl h) ?_
          clear hK K
          refine ⟨rfl, ?_⟩
          go_wp2_with fail
          all_goals exact ⟨⟨k + 1, by omega, by go_num, HL⟩, by simp [intOf]; omega⟩
      · have hkk : k = ds.length := by omega
        subst hkk
        obtain ⟨l1, hp1, hl1, hbl⟩ := HR.out
        have hkz : 200000 * ds.length ≤ 20000000000 := by omega
        have q0 := (hbl.cell (p := ⟨ub, 0, none⟩) hub).trans HC0.out
        have q1 := (hbl.cell (p := ⟨pb, 1, none⟩) hpb).trans HP1.out
        have HLC := Lib.hid (StP.at HLS.out hp1 hbl HBD.out (Nat.le_refl _) HBOK.out HBN.out (by omega) (by omega))
        have HBL := Lib.hid hbl
        clear hp1 hbl HR
        go_wp2_with fail
        refine HLC.out.mono ?_
        rintro ee w3 ⟨rfl, l3, hp, hl, hu, hb⟩
        have HP3 := Lib.hid hp
        have HB3 := Lib.hid (HBL.out.trans hb)
        clear hp hb
        go_wp2_with fail
        refine (string_some _ HP3.out.bld HP3.out.hB).mono ?_
        rintro ee w4 ⟨ss, rfl, hb⟩
        have HE4 := Lib.hid (HE.out.trans (Ext.of_below (HB3.out.trans hb)))
        clear hb
        go_wp2_with fail
        go_ret3
        exact ⟨ss, rfl, HE4.out⟩
end Go.Proofs.YtgjgaeloehfhiaaGreatDoor
end
