/- Expressions are printed. -/
import Derived.Test.YtgjgaeloehfhiaaGreatDoorM37
import Derived.Test.YtgjgaeloehfhiaaGreatDoorM10
import Derived.Test.YtgjgaeloehfhiaaGreatDoorM02
import Derived.Test.YtgjgaeloehfhiaaGreatDoorM03
import Derived.Deep.LoopGhost
import Derived.Test.YtgjgaeloehfhiaaGreatDoorM33
section
namespace Go.Proofs.YtgjgaeloehfhiaaGreatDoor
open Go.RowKit


/-- Without the parentheses around it. -/
def bareF : Ast → Ast
  | .exp k t ln l r => if k = 6 then bareF l else .exp k t ln l r
  | a => a
theorem bare_form : ∀ e : Ast, e.okE → ∃ k t ln l r, bareF e = .exp k t ln l r ∧ k ≠ 6 ∧ (Ast.exp k t ln l r).okE ∧ (Ast.exp k t ln l r).sz ≤ e.sz := by
  intro e
  induction e with
  | exp k t ln l r ihl ihr =>
    intro hok
    simp only [bareF]
    split
    · rename_i h6
      subst h6
      obtain ⟨hf, ⟨hk, -⟩ | ⟨-, hl, -⟩ | ⟨hk, -⟩⟩ := hok
      · omega
      · obtain ⟨k', t', ln', l', r', e1, e2, e3, e4⟩ := ihl hl
        refine ⟨k', t', ln', l', r', e1, e2, e3, ?_⟩
        have : (Ast.exp 6 t ln l r).sz = 1 + l.sz + r.sz := rfl
        omega
      · omega
    · rename_i h6
      exact ⟨k, t, ln, l, r, rfl, h6, hok, Nat.le_refl _⟩
  | _ => intro hok; exact hok.elim

set_option maxRecDepth 100000 in
set_option maxHeartbeats 1600000 in
theorem bare_any (e : Ast) (w : World) (lo hi : Nat) (v : Value) (h : AstAt w lo hi e v) (hok : e.okE) (hhi : hi ≤ w.heap.size) :
    Calls Tryz.prog 113 #[v] w fun r w' => ∃ v', r = .returned v' ∧ AstAt w lo hi (bareF e) v' ∧ Ext w w' := by
  have HA := Lib.hid h
  have HO := Lib.hid hok
  clear h hok
  go_enter Tryz.func113, Tryz.ntmps113
  go_wp2_with fail
  go_loopg [0] (e.sz) (fun n p wr => ∃ a : Ast, n = a.sz ∧ Hid (AstAt w lo hi a p) ∧ Hid a.okE ∧ Hid (bareF a = bareF e) ∧ Hid (Ext w wr))
  case atStart => exact ⟨e, rfl, HA, HO, Lib.hid rfl, Lib.hid (Ext.refl w)⟩
  case round =>
    obtain ⟨a, rfl, HA1, HO1, HB1, HE1⟩ := hrel
    cases a with
    | exp k t ln l r =>
      obtain ⟨b, vl, vr, rfl, hb1, hb2, hc, hl, hr⟩ := HA1.out
      have c0 := (HE1.out.cell b 0 (by omega)).trans (cell_of_heap (o := 0) hc)
      have c6 := (HE1.out.cell b 6 (by omega)).trans (cell_of_heap (o := 6) hc)
      simp only [List.getElem?_toArray, List.getElem?_cons_zero, List.getElem?_cons_succ] at c0 c6
      have HL := Lib.hid hl
      clear hc hl hr
      by_cases h6 : k = 6
      · subst h6
        have hlok : l.okE := by
          obtain ⟨hf, ⟨hk, -⟩ | ⟨-, hl, -⟩ | ⟨hk, -⟩⟩ := HO1.out
          · omega
          · exact hl
          · omega
        have HLO := Lib.hid hlok
        clear hlok
        go_wp2_with fail
        go_roundg l.sz
        case measure => simp only [Ast.sz]; omega
        case rel => exact ⟨l, rfl, HL, HLO, Lib.hid (by rw [← HB1.out]; rfl), HE1⟩
      · have hk : ((k : Int) == 6) = false := by simp; omega
        have hbf : bareF (.exp k t ln l r) = .exp k t ln l r := by simp only [bareF]; rw [if_neg h6]
        have HBF := Lib.hid (hbf.symm.trans HB1.out)
        clear hbf h6
        go_wp2_with fail
        go_ret
        exact ⟨_, rfl, by rw [← HBF.out]; exact HA1.out, HE1.out⟩
    | _ => exact HO1.out.elim

/-- How an expression's text is made. -/
def PlC (N : Nat) (e : Ast) : Prop := e.sz ≤ 300000 → ∀ (w : World) (lo hi : Nat) (v : Value), AstAt w lo hi e v → hi ≤ w.heap.size → Gl N w → Tb N w → e.okE →
  Calls Tryz.prog 69 #[v] w fun r w' => ∃ s, r = .returned (.string s) ∧ s.size ≤ 100010 * e.sz ∧ Ext w w'
def WrC (N : Nat) (e : Ast) : Prop := e.sz ≤ 300000 → ∀ (w : World) (lo hi : Nat) (v : Value) (need : Int), AstAt w lo hi e v → hi ≤ w.heap.size → Gl N w → Tb N w → e.okE →
  Calls Tryz.prog 114 #[v, .int .i64 need] w fun r w' => ∃ s, r = .returned (.string s) ∧ s.size ≤ 100010 * e.sz + 2 ∧ Ext w w'

theorem sz_app (a b : ByteArray) : (a ++ b).size = a.size + b.size := ByteArray.size_append

set_option maxRecDepth 100000 in
set_option maxHeartbeats 1600000 in
theorem wrap_any {N : Nat} (e : Ast) (ih : ∀ a : Ast, a.sz ≤ e.sz → PlC N a) : WrC N e := by
  intro hsm w lo hi v need h hhi hG hT hok
  obtain ⟨k, t, ln, l, r, hbf, hk6, hok', hsz⟩ := bare_form e hok
  have hp := ih _ hsz (by omega)
  have HB := Lib.hid (bare_any e w lo hi v h hok hhi)
  have HP := Lib.hid hp
  have HG := Lib.hid hG
  have HT := Lib.hid hT
  have HO := Lib.hid hok'
  have HBF := Lib.hid hbf
  clear h hG hT hok ih hp hok' hbf
  have HSZ := Lib.hid hsz
  clear hsz
  go_enter Tryz.func114, Tryz.ntmps114
  go_wp2_with fail
  refine HB.out.mono ?_
  rintro e1 w1 ⟨v1, rfl, ha, hE⟩
  rw [HBF.out] at ha
  obtain ⟨b, vl, vr, rfl, hb1, hb2, hc, hl, hr⟩ := ha
  have HA := Lib.hid (show AstAt w lo hi (.exp k t ln l r) (.pointer (some ⟨b, 0, none⟩)) from ⟨b, vl, vr, rfl, hb1, hb2, hc, hl, hr⟩)
  have c0 := (hE.cell b 0 (by omega)).trans (cell_of_heap (o := 0) hc)
  have c2 := (hE.cell b 2 (by omega)).trans (cell_of_heap (o := 2) hc)
  simp only [List.getElem?_toArray, List.getElem?_cons_zero, List.getElem?_cons_succ] at c0 c2
  have HE := Lib.hid hE
  have x1 := hE.size
  clear hc hl hr hE
  have hpl : ∀ w', Ext w w' → Calls Tryz.prog 69 #[.pointer (some ⟨b, 0, none⟩)] w' fun r w'' => ∃ s, r = .returned (.string s) ∧ s.size ≤ 100010 * e.sz ∧ Ext w' w'' := fun w' hE' => by
    refine (HP.out w' lo hi _ (hE'.ast hhi (Nat.le_refl _) (Nat.le_refl _) HA.out) (by have := hE'.size; omega) (HG.out.ext hE') (HT.out.ext hE') HO.out).mono ?_
    rintro e' w'' ⟨s, rfl, hs, hE''⟩
    exact ⟨s, rfl, Nat.le_trans hs (Nat.mul_le_mul_left _ HSZ.out), hE''⟩
  have HPL := Lib.hid hpl
  clear hpl
  by_cases h5 : k = 5
  · subst h5
    go_wp2_with fail
    refine (tightness_any _ t.text (HG.out.ext HE.out).ops).mono ?_
    rintro e2 w2 ⟨rfl, hE2⟩
    have HE2 := Lib.hid (HE.out.trans hE2)
    clear hE2
    by_cases hlt : (tightF t.text.toList : Int) < need
    · have hd : decide ((tightF t.text.toList : Int) < need) = true := by simpa using hlt
      generalize tightF t.text.toList = tt at *
      go_wp2_with fail
      refine (HPL.out _ HE2.out).mono ?_
      rintro e3 w3 ⟨s, rfl, hs, hE3⟩
      have HS := Lib.hid hs
      have HE3 := Lib.hid (HE2.out.trans hE3)
      clear hE3
      go_wp2_with fail
      all_goals try omega
      go_ret
      refine ⟨_, rfl, ?_, HE3.out⟩
      have := HS.out
      simp only [ByteArray.size_append', ByteArray.size_mk', List.size_toArray, List.length_cons, List.length_nil]
      omega
    · have hd : decide ((tightF t.text.toList : Int) < need) = false := by simpa using hlt
      generalize tightF t.text.toList = tt at *
      go_wp2_with fail
      refine (HPL.out _ HE2.out).mono ?_
      rintro e3 w3 ⟨s, rfl, hs, hE3⟩
      have HS := Lib.hid hs
      have HE3 := Lib.hid (HE2.out.trans hE3)
      clear hs hE3
      go_wp2_with fail
      go_ret
      exact ⟨_, rfl, by have := HS.out; omega, HE3.out⟩
  · have hk : ((k : Int) == 5) = false := by simp; omega
    go_wp2_with fail
    refine (HPL.out _ HE.out).mono ?_
    rintro e3 w3 ⟨s, rfl, hs, hE3⟩
    have HS := Lib.hid hs
    have HE3 := Lib.hid (HE.out.trans hE3)
    clear hs hE3
    go_wp2_with fail
    go_ret
    exact ⟨_, rfl, by have := HS.out; omega, HE3.out⟩

set_option maxRecDepth 100000 in
set_option maxHeartbeats 6400000 in
theorem plain_step {N : Nat} (e : Ast) (ih : ∀ a : Ast, a.sz < e.sz → PlC N a) : PlC N e := by
  intro hsm w lo hi v h hhi hG hT hok
  obtain ⟨k, t, ln, l, r, hbf, hk6, hok', hsz⟩ := bare_form e hok
  have hwr : ∀ a : Ast, a.sz < e.sz → WrC N a := fun a ha => wrap_any a fun a' ha' => ih a' (by omega)
  have hsz2 : 1 + l.sz + r.sz ≤ e.sz := hsz
  have hpl : ∀ a : Ast, a.sz < e.sz → a.okE → ∀ va, AstAt w lo hi a va → ∀ w', Ext w w' → Calls Tryz.prog 69 #[va] w' fun r w'' => ∃ s, r = .returned (.string s) ∧ s.size ≤ 100010 * a.sz ∧ Ext w' w'' :=
    fun a ha hao va hat w' hE' => ih a ha (by omega) w' lo hi va (hE'.ast hhi (Nat.le_refl _) (Nat.le_refl _) hat) (by have := hE'.size; omega) (hG.ext hE') (hT.ext hE') hao
  have hwl : ∀ a : Ast, a.sz < e.sz → a.okE → ∀ va, AstAt w lo hi a va → ∀ w', Ext w w' → ∀ need : Int, Calls Tryz.prog 114 #[va, .int .i64 need] w' fun r w'' => ∃ s, r = .returned (.string s) ∧ s.size ≤ 100010 * a.sz + 2 ∧ Ext w' w'' :=
    fun a ha hao va hat w' hE' need => hwr a ha (by omega) w' lo hi va need (hE'.ast hhi (Nat.le_refl _) (Nat.le_refl _) hat) (by have := hE'.size; omega) (hG.ext hE') (hT.ext hE') hao
  have HB := Lib.hid (bare_any e w lo hi v h hok hhi)
  have HPL := Lib.hid hpl
  have HWL := Lib.hid hwl
  have HG := Lib.hid hG
  have HT := Lib.hid hT
  have HO := Lib.hid hok'
  have HBF := Lib.hid hbf
  clear h hG hT hok ih hok' hbf hpl hwl hwr hsz
  go_enter Tryz.func69, Tryz.ntmps69
  go_wp2_with fail
  refine HB.out.mono ?_
  rintro e1 w1 ⟨v1, rfl, ha, hE⟩
  rw [HBF.out] at ha
  obtain ⟨b, vl, vr, rfl, hb1, hb2, hc, hl, hr⟩ := ha
  have hcell : ∀ w', Ext w w' → w'.cell? ⟨b, 0, none⟩ = some (.int .i64 k) ∧ w'.cell? ⟨b, 2, none⟩ = some (.string t.text) ∧ w'.cell? ⟨b, 4, none⟩ = some (.int .u32 t.num) ∧ w'.cell? ⟨b, 6, none⟩ = some vl ∧ w'.cell? ⟨b, 7, none⟩ = some vr :=
    fun w' hE' => ⟨(hE'.cell b 0 (by omega)).trans (cell_of_heap (o := 0) hc), (hE'.cell b 2 (by omega)).trans (cell_of_heap (o := 2) hc), (hE'.cell b 4 (by omega)).trans (cell_of_heap (o := 4) hc), (hE'.cell b 6 (by omega)).trans (cell_of_heap (o := 6) hc), (hE'.cell b 7 (by omega)).trans (cell_of_heap (o := 7) hc)⟩
  obtain ⟨c0, c2, c4, c6, c7⟩ := hcell w1 hE
  have HCELL := Lib.hid hcell
  have HE := Lib.hid hE
  have HL := Lib.hid hl
  have HR := Lib.hid hr
  have hfit := HO.out.1
  have hts := hfit.1
  have htn := hfit.2
  clear hc hl hr hE hcell hfit
  obtain ⟨-, ⟨rfl | rfl | rfl, rfl, rfl⟩ | ⟨rfl | rfl | rfl, hlo, rfl⟩ | ⟨rfl, hlo, hro⟩⟩ := HO.out
  · have hw64 : IntKind.u64.wrap (t.num : Int) = (t.num : Int) := IntWalk.u64_in _ (by omega)
    go_wp2_with fail
    refine (formatU_any t.num (by omega) _ (HT.out.ext HE.out)).mono ?_
    rintro e2 w2 ⟨rfl, hE2⟩
    have HE2 := Lib.hid (HE.out.trans hE2)
    clear hE2
    go_wp2_with fail
    go_ret
    refine ⟨_, rfl, ?_, HE2.out⟩
    have h10 := dec_len 9 t.num (by omega)
    rw [Lib.size_eq]
    simp only [Ast.sz] at hsz2
    simp
    omega
  · go_wp2_with fail
    go_ret
    simp only [Ast.sz] at hsz2
    exact ⟨_, rfl, by omega, HE.out⟩
  · go_wp2_with fail
    go_ret
    simp only [Ast.sz] at hsz2
    exact ⟨_, rfl, by omega, HE.out⟩
  · go_wp2_with fail
    refine wp_region_plan (fun w' => w'.cell? ⟨b, 2, none⟩ = some (.string t.text) ∧ w'.cell? ⟨b, 6, none⟩ = some vl)
      [(0, true), (1, true), (2, true), (3, true), (4, true), (5, true), (6, true), (7, true), (8, true), (9, true), (10, false), (11, true), (12, true), (13, true)] true (by kernel_rfl) (by kernel_rfl) (fun c a d v w h => by cases d <;> exact h) ⟨c2, c6⟩ ?_
    iterate 10 (refine ⟨_, ?_, rfl, Or.inl ⟨by rfl, ?_⟩, ?_⟩; rotate_left; (· intro w' hSw; (try dsimp only at hSw); go_simp; (try rw [if_neg (by omega)]); (try with_reducible rfl)); simp only [Act.put, List.setIfInBounds_toArray, List.set_cons_zero, List.set_cons_succ, List.getElem_toArray, List.getElem_cons_zero, List.getElem_cons_succ])
    refine wpPlan_act rfl (by rfl) (fun K hK => ?_)
    go_simp
    refine (HPL.out l (by omega) hlo vl HL.out _ (HE.out.drew)).mono ?_
    rintro e2 w2 ⟨s, rfl, hs, hE2⟩
    have HS := Lib.hid hs
    have HE2 := Lib.hid (HE.out.drew.trans hE2)
    clear hE2
    obtain ⟨d0, d2, d4, d6, d7⟩ := HCELL.out w2 HE2.out
    refine hK _ _ (fun _ => ⟨d2, d6⟩) ?_
    clear hK K
    try simp only [Act.put, List.setIfInBounds_toArray, List.set_cons_zero, List.set_cons_succ]
    iterate 3 (refine ⟨_, ?_, rfl, Or.inl ⟨by rfl, ?_⟩, ?_⟩; rotate_left; (· intro w' hSw; (try dsimp only at hSw); go_simp; (try rw [if_neg (by omega)]); (try with_reducible rfl)); simp only [Act.put, List.setIfInBounds_toArray, List.set_cons_zero, List.set_cons_succ, List.getElem_toArray, List.getElem_cons_zero, List.getElem_cons_succ])
    refine ⟨rfl, ?_⟩
    go_wp2_with fail
    go_ret
    refine ⟨_, rfl, ?_, HE2.out⟩
    have q1 := HS.out
    try simp only [Ast.sz] at hsz2
    simp only [ByteArray.size_append', ByteArray.size_mk', List.size_toArray, List.length_cons, List.length_nil]
    omega
  · go_wp2_with fail
    refine wp_region_plan (fun w' => w'.cell? ⟨b, 2, none⟩ = some (.string t.text) ∧ w'.cell? ⟨b, 6, none⟩ = some vl)
      [(0, true), (1, true), (2, true), (3, true), (4, true), (5, true), (6, true), (7, true), (8, true), (9, false), (10, true), (11, true)] true (by kernel_rfl) (by kernel_rfl) (fun c a d v w h => by cases d <;> exact h) ⟨c2, c6⟩ ?_
    iterate 9 (refine ⟨_, ?_, rfl, Or.inl ⟨by rfl, ?_⟩, ?_⟩; rotate_left; (· intro w' hSw; (try dsimp only at hSw); go_simp; (try rw [if_neg (by omega)]); (try with_reducible rfl)); simp only [Act.put, List.setIfInBounds_toArray, List.set_cons_zero, List.set_cons_succ, List.getElem_toArray, List.getElem_cons_zero, List.getElem_cons_succ])
    refine wpPlan_act rfl (by rfl) (fun K hK => ?_)
    go_simp
    refine (HWL.out l (by omega) hlo vl HL.out _ (HE.out.drew) _).mono ?_
    rintro e2 w2 ⟨s, rfl, hs, hE2⟩
    have HS := Lib.hid hs
    have HE2 := Lib.hid (HE.out.drew.trans hE2)
    clear hE2
    obtain ⟨d0, d2, d4, d6, d7⟩ := HCELL.out w2 HE2.out
    refine hK _ _ (fun _ => ⟨d2, d6⟩) ?_
    clear hK K
    try simp only [Act.put, List.setIfInBounds_toArray, List.set_cons_zero, List.set_cons_succ]
    iterate 2 (refine ⟨_, ?_, rfl, Or.inl ⟨by rfl, ?_⟩, ?_⟩; rotate_left; (· intro w' hSw; (try dsimp only at hSw); go_simp; (try rw [if_neg (by omega)]); (try with_reducible rfl)); simp only [Act.put, List.setIfInBounds_toArray, List.set_cons_zero, List.set_cons_succ, List.getElem_toArray, List.getElem_cons_zero, List.getElem_cons_succ])
    refine ⟨rfl, ?_⟩
    go_wp2_with fail
    go_ret
    refine ⟨_, rfl, ?_, HE2.out⟩
    have q1 := HS.out
    try simp only [Ast.sz] at hsz2
    simp only [ByteArray.size_append']
    omega
  · exact absurd rfl hk6
  · go_wp2_with fail
    refine (tightness_any _ t.text (HG.out.ext HE.out).ops).mono ?_
    rintro e2 w2 ⟨rfl, hE2⟩
    have HE3 := Lib.hid (HE.out.trans hE2)
    clear hE2
    have htl : tightF t.text.toList ≤ 10 := tightF_le _
    generalize tightF t.text.toList = tt at *
    have hw1 : IntKind.i64.wrap ((tt : Int) + 1) = (tt : Int) + 1 := IntWalk.i64_in _ (by omega)
    obtain ⟨f0, f2, f4, f6, f7⟩ := HCELL.out w2 HE3.out
    clear c0 c2 c4 c6 c7
    go_wp2_with fail
    refine wp_region_plan (fun w' => w'.cell? ⟨b, 2, none⟩ = some (.string t.text) ∧ w'.cell? ⟨b, 6, none⟩ = some vl ∧ w'.cell? ⟨b, 7, none⟩ = some vr)
      [(0, true), (1, true), (2, true), (3, true), (4, true), (7, true), (8, true), (9, true), (10, true), (11, true), (14, true), (15, true), (16, true), (17, true), (18, true), (19, true), (5, false), (6, true), (12, true), (13, true), (20, false), (21, true), (22, true)] true (by kernel_rfl) (by kernel_rfl) (fun c a d v w h => by cases d <;> exact h) ⟨f2, f6, f7⟩ ?_
    iterate 16 (refine ⟨_, ?_, rfl, Or.inl ⟨by rfl, ?_⟩, ?_⟩; rotate_left; (· intro w' hSw; (try dsimp only at hSw); go_simp; (try rw [if_neg (by omega)]); (try with_reducible rfl)); simp only [Act.put, List.setIfInBounds_toArray, List.set_cons_zero, List.set_cons_succ, List.getElem_toArray, List.getElem_cons_zero, List.getElem_cons_succ])
    refine wpPlan_act rfl (by rfl) (fun K hK => ?_)
    go_simp
    refine (HWL.out l (by omega) hlo vl HL.out _ (HE3.out.drew) _).mono ?_
    rintro e3 w3 ⟨s, rfl, hs, hE2⟩
    have HS := Lib.hid hs
    have HE2 := Lib.hid (HE3.out.drew.trans hE2)
    clear hE2
    obtain ⟨d0, d2, d4, d6, d7⟩ := HCELL.out w3 HE2.out
    refine hK _ _ (fun _ => ⟨d2, d6, d7⟩) ?_
    clear hK K
    try simp only [Act.put, List.setIfInBounds_toArray, List.set_cons_zero, List.set_cons_succ]
    iterate 3 (refine ⟨_, ?_, rfl, Or.inl ⟨by rfl, ?_⟩, ?_⟩; rotate_left; (· intro w' hSw; (try dsimp only at hSw); go_simp; (try rw [if_neg (by omega)]); (try with_reducible rfl)); simp only [Act.put, List.setIfInBounds_toArray, List.set_cons_zero, List.set_cons_succ, List.getElem_toArray, List.getElem_cons_zero, List.getElem_cons_succ])
    refine wpPlan_act rfl (by rfl) (fun K hK => ?_)
    go_simp
    refine (HWL.out r (by omega) hro vr HR.out _ HE2.out _).mono ?_
    rintro e4 w4 ⟨s2, rfl, hs2, hE2⟩
    have HS2 := Lib.hid hs2
    have HE4 := Lib.hid (HE2.out.trans hE2)
    clear hE2 d0 d2 d4 d6 d7
    obtain ⟨d0, d2, d4, d6, d7⟩ := HCELL.out w4 HE4.out
    refine hK _ _ (fun _ => ⟨d2, d6, d7⟩) ?_
    clear hK K
    try simp only [Act.put, List.setIfInBounds_toArray, List.set_cons_zero, List.set_cons_succ]
    iterate 2 (refine ⟨_, ?_, rfl, Or.inl ⟨by rfl, ?_⟩, ?_⟩; rotate_left; (· intro w' hSw; (try dsimp only at hSw); go_simp; (try rw [if_neg (by omega)]); (try with_reducible rfl)); simp only [Act.put, List.setIfInBounds_toArray, List.set_cons_zero, List.set_cons_succ, List.getElem_toArray, List.getElem_cons_zero, List.getElem_cons_succ])
    refine ⟨rfl, ?_⟩
    go_wp2_with fail
    go_ret
    refine ⟨_, rfl, ?_, HE4.out⟩
    have q1 := HS.out
    have q2 := HS2.out
    try simp only [Ast.sz] at hsz2
    simp only [ByteArray.size_append', ByteArray.size_mk', List.size_toArray, List.length_cons, List.length_nil]
    omega

theorem plain_any {N : Nat} : ∀ (n : Nat) (e : Ast), e.sz ≤ n → PlC N e
  | 0, e, h => plain_step e fun a ha => by omega
  | n + 1, e, h => plain_step e fun a ha => plain_any n a (by omega)
end Go.Proofs.YtgjgaeloehfhiaaGreatDoor
end
section
/- Linked choices: what stands behind 'else if' is a choice. -/
namespace Go.Proofs.YtgjgaeloehfhiaaGreatDoor
open Go.RowKit

def Ast.isCh (a : Ast) : Prop := ∃ t e f b r lk, a = .stm 2 t e f b r lk
/-- Each linked choice has a choice behind it. -/
def Ast.chn : Ast → Prop
  | .stm _ _ _ _ b r link => (link = true → ∃ s, r = .blk 0 (.cons s .lnil) ∧ s.isCh) ∧ b.chn ∧ r.chn
  | .blk _ l => l.chn
  | .cons h t => h.chn ∧ t.chn
  | _ => True
theorem chn_ofList : ∀ l : List Ast, (∀ a ∈ l, a.chn) → (ofList l).chn
  | [], _ => trivial
  | a :: l, h => ⟨h a (by simp), chn_ofList l fun x hx => h x (by simp [hx])⟩
def What.chnW : What → Ast → Prop
  | .operand, _ | .expr _, _ | .rest _ _, _ => True
  | .stmts acc, a => (∀ x ∈ acc, x.chn) → a.chn
  | .choice, a => a.chn ∧ a.isCh
  | _, a => a.chn

set_option maxHeartbeats 4000000 in
theorem pr_chn {toks : List Tok} (f : Nat) : ∀ (wh : What) (p : Nat) (a : Ast) (b : Nat), pr toks f wh p = .ok (a, b) → wh.chnW a := by
  induction f with
  | zero => intro wh p a b h; simp [pr] at h
  | succ f ih =>
    intro wh p a b h
    cases wh with
    | operand => trivial
    | expr t => trivial
    | rest t e => trivial
    | assign =>
      simp only [pr] at h
      simp only [What.chnW]
      grind [Ast.chn]
    | choice =>
      simp only [pr] at h
      have e2 := fun (x : Nat) (u : Ast) (v : Nat) (hh : pr toks f .block x = .ok (u, v)) => ih _ _ _ _ hh
      have e3 := fun (x : Nat) (u : Ast) (v : Nat) (hh : pr toks f .choice x = .ok (u, v)) => ih _ _ _ _ hh
      simp only [What.chnW] at e2 e3 ⊢
      split at h
      · split at h
        · cases h
        · split at h
          · cases h
          · rename_i b1' c q3
            have h3 := e2 _ _ _ q3
            split at h
            · split at h
              · split at h
                · cases h
                · rename_i s d q6
                  have h6 := e3 _ _ _ q6
                  cases h
                  exact ⟨⟨fun _ => ⟨_, rfl, h6.2⟩, h3, h6.1, trivial⟩, _, _, _, _, _, _, rfl⟩
              · split at h
                · cases h
                · rename_i s d q6
                  have h6 := e2 _ _ _ q6
                  cases h
                  exact ⟨⟨(by intro h; cases h), h3, h6⟩, _, _, _, _, _, _, rfl⟩
            · cases h
              exact ⟨⟨(by intro h; cases h), h3, trivial⟩, _, _, _, _, _, _, rfl⟩
      · cases h
    | block =>
      simp only [pr] at h
      have e1 := fun (x : Nat) (u : Ast) (v : Nat) (hh : pr toks f (.stmts []) x = .ok (u, v)) => (show u.chn from ih _ _ _ _ hh (fun _ hx => by simp at hx))
      simp only [What.chnW]
      grind [Ast.chn]
    | stmts acc =>
      simp only [pr] at h
      intro hacc
      split at h
      · simp only [Except.ok.injEq, Prod.mk.injEq] at h
        rw [← h.1]
        exact chn_ofList acc hacc
      · split at h
        · simp at h
        · rename_i s x hs
          have h1 : s.chn := ih _ _ _ _ hs
          refine (show (∀ x ∈ acc ++ [s], x.chn) → a.chn from ih _ _ _ _ h) ?_
          intro y hy
          rcases List.mem_append.1 hy with hy | hy
          · exact hacc y hy
          · simp only [List.mem_singleton] at hy; exact hy ▸ h1
    | stmt =>
      simp only [pr] at h
      have e0 := fun (x : Nat) (u : Ast) (v : Nat) (hh : pr toks f .assign x = .ok (u, v)) => ih _ _ _ _ hh
      have e2 := fun (x : Nat) (u : Ast) (v : Nat) (hh : pr toks f .block x = .ok (u, v)) => ih _ _ _ _ hh
      have e3 := fun (x : Nat) (u : Ast) (v : Nat) (hh : pr toks f .choice x = .ok (u, v)) => ih _ _ _ _ hh
      simp only [What.chnW] at e0 e2 e3 ⊢
      grind [Ast.chn]

theorem body_chn {toks : List Tok} : ∀ (f p : Nat) (acc : List Ast), (∀ x ∈ acc, x.chn) → ∀ l, prBody toks f p acc = .ok l → ∀ x ∈ l, x.chn
  | 0, p, acc, _ => fun l h => by cases h
  | f + 1, p, acc, hacc => fun l h => by
    simp only [prBody] at h
    split at h
    · cases h; exact hacc
    · split at h
      · cases h
      · rename_i s a q
        refine body_chn f a (acc ++ [s]) (fun x hx => ?_) l h
        rcases List.mem_append.1 hx with hx | hx
        · exact hacc x hx
        · simp only [List.mem_singleton] at hx; rw [hx]; exact pr_chn _ .stmt p s a q

theorem readF_chn {toks : List Tok} {ds : List (Tok × Nat)} {l : List Ast} (h : readF toks = .ok (ds, l)) : ∀ x ∈ l, x.chn := by
  simp only [readF] at h
  split at h
  · cases h
  · split at h
    · cases h
    · rename_i l' q2
      cases h
      exact body_chn _ _ [] (by simp) _ q2
theorem chn_items : ∀ {a : Ast}, a.isL → (∀ x ∈ a.items, x.chn) → a.chn := by
  intro a
  induction a with
  | cons h t ih1 ih2 => intro hl hx; exact ⟨hx h (by simp [Ast.items]), ih2 hl fun x hx' => hx x (by simp [Ast.items, hx'])⟩
  | lnil => intro _ _; trivial
  | _ => intro h; exact h.elim
theorem items_chn : ∀ {a : Ast}, a.isL → a.chn → ∀ x ∈ a.items, x.chn := by
  intro a
  induction a with
  | cons h t ih1 ih2 =>
    intro hl hc x hx
    rcases List.mem_cons.1 hx with rfl | hx
    · exact hc.1
    · exact ih2 hl hc.2 x hx
  | _ => intro _ _ x hx; cases hx
end Go.Proofs.YtgjgaeloehfhiaaGreatDoor
end
