/- Expressions, told. -/
import Derived.Test.YtgjgaeloehfhiaaGreatDoorM35
import Derived.Test.YtgjgaeloehfhiaaGreatDoorM04
import Derived.Deep.LoopGhost
section
namespace Go.Proofs.YtgjgaeloehfhiaaGreatDoor
open Go.RowKit


theorem constE5 (t : Tok) (ln : Nat) (l r : Ast) : constE (.exp 5 t ln l r) = pairC t.text.toList (constE l) (constE r) := by
  unfold pairC
  simp only [constE]
  cases constE l <;> cases constE r <;> simp
theorem constE6 (t : Tok) (ln : Nat) (l r : Ast) : constE (.exp 6 t ln l r) = constE l := by simp [constE]
theorem constE0 (t : Tok) (ln : Nat) (l r : Ast) : constE (.exp 0 t ln l r) = some t.num := by simp [constE]
theorem constE1 (t : Tok) (ln k : Nat) (l r : Ast) (h : k = 1 ∨ k = 2 ∨ k = 3 ∨ k = 4) : constE (.exp k t ln l r) = none := by rcases h with rfl | rfl | rfl | rfl <;> simp [constE]
theorem named_exp {L : Places} {k : Nat} {t : Tok} {ln : Nat} {l r : Ast} (h : namedF L (.exp k t ln l r) = none) : ((k = 2 ∨ k = 3) → usedF L t (k == 3) = none) ∧ namedF L l = none ∧ namedF L r = none := by
  simp only [namedF, Option.or_eq_none_iff] at h
  refine ⟨fun hk => ?_, h.2.1, h.2.2⟩
  have h1 := h.1
  rw [if_pos hk] at h1
  exact h1

set_option maxRecDepth 100000 in
set_option maxHeartbeats 12800000 in
theorem expr_any {base hi lo : Nat} {L : Places} : ∀ e : Ast, ExC base hi lo L e := by
  intro e
  induction e with
  | exp k t ln l r ihl ihr =>
    intro w mb ub mpb n fuel used outs v h ha hhi hok hn
    obtain ⟨eb, vl, vr, rfl, hb1, hb2, hc, hal, har⟩ := ha
    obtain ⟨hu, hnl, hnr⟩ := named_exp hn
    have heb : eb < base := by omega
    have hcell : ∀ w', Below base w w' → w'.cell? ⟨eb, 0, none⟩ = some (.int .i64 k) ∧ w'.cell? ⟨eb, 1, none⟩ = some (.int .i64 t.kind) ∧ w'.cell? ⟨eb, 2, none⟩ = some (.string t.text) ∧ w'.cell? ⟨eb, 3, none⟩ = some (.int .i64 t.line) ∧ w'.cell? ⟨eb, 4, none⟩ = some (.int .u32 t.num) ∧ w'.cell? ⟨eb, 6, none⟩ = some vl ∧ w'.cell? ⟨eb, 7, none⟩ = some vr := fun w' hb =>
      ⟨(hb.cell (p := ⟨eb, 0, none⟩) heb).trans (cell_of_heap (o := 0) hc), (hb.cell (p := ⟨eb, 1, none⟩) heb).trans (cell_of_heap (o := 1) hc), (hb.cell (p := ⟨eb, 2, none⟩) heb).trans (cell_of_heap (o := 2) hc), (hb.cell (p := ⟨eb, 3, none⟩) heb).trans (cell_of_heap (o := 3) hc), (hb.cell (p := ⟨eb, 4, none⟩) heb).trans (cell_of_heap (o := 4) hc), (hb.cell (p := ⟨eb, 6, none⟩) heb).trans (cell_of_heap (o := 6) hc), (hb.cell (p := ⟨eb, 7, none⟩) heb).trans (cell_of_heap (o := 7) hc)⟩
    obtain ⟨c0, c1, c2, c3, c4, c6, c7⟩ := hcell w (Below.refl _ _)
    have HC := Lib.hid hcell
    have HM := Lib.hid h
    have hBB := h.hB
    have hlow := h.m.low
    have hmbw := h.m.cells.choose_spec.2.2
    have hfu := h.fu
    have hf6 := h.f6
    have hol := h.ol
    have hts := hok.1.1
    have htn := hok.1.2
    have HOK := Lib.hid hok.2
    have HAL := Lib.hid hal
    have HAR := Lib.hid har
    have HL := Lib.hid ihl
    have HR := Lib.hid ihr
    have HU := Lib.hid hu
    have HNL := Lib.hid hnl
    have HNR := Lib.hid hnr
    clear h hc hal har hcell hok ihl ihr hu hnl hnr hn
    rcases HOK.out with ⟨rfl | rfl | rfl, rfl, rfl⟩ | ⟨rfl | rfl | rfl, hol', rfl⟩ | ⟨rfl, hol', hor⟩
    · rw [constE0]
      go_enter Tryz.func117, Tryz.ntmps117
      go_wp2_with fail
      go_ret
      exact .inl ⟨t.num, outs, used, rfl, htn, HM.out, Nat.le_refl _, by omega, MFr.refl _ _ _, fun y hy => by cases hy; exact ⟨rfl, rfl, rfl⟩⟩
    · rw [constE1 _ _ _ _ _ (by omega)]
      by_cases huf : used = fuel
      · have HA := Lib.hid (ask_end w HM.out.m hBB huf)
        go_enter Tryz.func117, Tryz.ntmps117
        go_wp2_with fail
        refine HA.out.mono ?_
        rintro e w1 ⟨rfl, hE⟩
        exact ⟨rfl, .inr ⟨rfl, 1, 0, outs, used, rfl, HM.out.m.ext hE, .of_ext hE hBB⟩⟩
      · have HA := Lib.hid (ask_on w HM.out.m hBB (by omega) hf6 (by omega))
        go_enter Tryz.func117, Tryz.ntmps117
        go_wp2_with fail
        refine HA.out.mono ?_
        rintro e w1 ⟨rfl, hm, hf⟩
        have H1 := Lib.hid (HM.out.step hm hf (by omega) (by simp; omega))
        have HF := Lib.hid hf
        clear hm hf
        go_wp2_with fail
        go_ret
        exact XPost.of (by omega) H1.out (by omega) (by simp; omega) HF.out
    · rw [constE1 _ _ _ _ _ (by omega)]
      obtain ⟨a, z, hp, h1, h2, -⟩ := used_at HM.out.lr (HU.out (by omega))
      obtain ⟨x, hx, hcx, -⟩ := HM.out.m.mem (a - 384) (by omega)
      have hS : w.drew.cell? ⟨mb, 0, none⟩ = some (.pointer (some ⟨ub, 0, none⟩)) ∧ w.drew.cell? ⟨ub, 1, none⟩ = some (.map (some mpb)) ∧ w.drew.cell? ⟨eb, 2, none⟩ = some (.string t.text) ∧ (Instr.lookup 48 (.map (some mpb)) (.string t.text) false).run Tryz.prog w.drew = .ok (.agg #[.int .i64 a, .int .u32 z]) w.drew ∧ w.drew.cell? ⟨mb, 1 + (a - 384), none⟩ = some (.int .u32 (x : Int)) :=
        ⟨HM.out.cell0, HM.out.map, c2, (HM.out.ext ((Ext.refl w).drew)).look hts hp, hcx⟩
      have hw1 : IntKind.i64.wrap ((a : Int) - 384) = ((a - 384 : Nat) : Int) := by rw [show ((a : Int) - 384) = ((a - 384 : Nat) : Int) by omega]; exact IntWalk.i64_in _ (by omega)
      have ha96 : ((a - 384 : Nat) : Int) < 96 := by omega
      have hfl := run_field82_0
      clear hp hcx
      generalize a - 384 = a' at *
      go_enter Tryz.func117, Tryz.ntmps117
      go_wp2_with fail
      refine wp_region_plan (fun w' => w'.cell? ⟨mb, 0, none⟩ = some (.pointer (some ⟨ub, 0, none⟩)) ∧ w'.cell? ⟨ub, 1, none⟩ = some (.map (some mpb)) ∧ w'.cell? ⟨eb, 2, none⟩ = some (.string t.text) ∧ (Instr.lookup 48 (.map (some mpb)) (.string t.text) false).run Tryz.prog w' = .ok (.agg #[.int .i64 a, .int .u32 z]) w' ∧ w'.cell? ⟨mb, 1 + a', none⟩ = some (.int .u32 (x : Int)))
        [(0, true), (1, true), (2, true), (3, true), (4, true), (5, true), (6, true), (7, true), (8, true), (9, true), (10, true), (11, true), (12, true), (13, true), (14, true), (15, true), (16, true), (17, true), (18, true), (19, true), (20, true)] true (by kernel_rfl) (by kernel_rfl) (fun c a d v w h => by cases d <;> exact h) hS ?_
      iterate 21 (refine ⟨_, ?_, rfl, Or.inl ⟨by rfl, ?_⟩, ?_⟩; rotate_left; (· intro w' hSw; (try dsimp only at hSw); go_simp; (try with_reducible rfl)); simp only [Act.put, List.setIfInBounds_toArray, List.set_cons_zero, List.set_cons_succ, List.getElem_toArray, List.getElem_cons_zero, List.getElem_cons_succ])
      refine ⟨rfl, ?_⟩
      clear hS
      go_wp2_with fail
      go_ret
      exact XPost.of (by omega) (HM.out.ext ((Ext.refl w).drew)) (by omega) (by omega) (.of_ext ((Ext.refl w).drew) hBB)
    · rw [constE1 _ _ _ _ _ (by omega)]
      have hD : Ext w w.drew := (Ext.refl w).drew
      have HI := Lib.hid (index_any l HL.out w.drew mb ub mpb n fuel used outs t vl (HM.out.ext hD) (hD.ast (by omega) (Nat.le_refl _) (Nat.le_refl _) HAL.out) hhi hol' HNL.out hts (HU.out (by omega)))
      go_enter Tryz.func117, Tryz.ntmps117
      go_wp2_with fail
      refine wp_region_plan (fun w' => w'.cell? ⟨eb, 1, none⟩ = some (.int .i64 t.kind) ∧ w'.cell? ⟨eb, 2, none⟩ = some (.string t.text) ∧ w'.cell? ⟨eb, 3, none⟩ = some (.int .i64 t.line) ∧ w'.cell? ⟨eb, 4, none⟩ = some (.int .u32 t.num) ∧ w'.cell? ⟨eb, 6, none⟩ = some vl)
        [(0, true), (1, true), (2, true), (3, true), (4, true), (5, true), (6, true), (7, true), (8, true), (9, true), (11, true), (12, true), (10, false), (13, false), (14, false), (15, false)] true (by kernel_rfl) (by kernel_rfl) (fun c a d v w h => by cases d <;> exact h) ⟨c1, c2, c3, c4, c6⟩ ?_
      iterate 12 (refine ⟨_, ?_, rfl, Or.inl ⟨by rfl, ?_⟩, ?_⟩; rotate_left; (· intro w' hSw; (try dsimp only at hSw); go_simp; (try with_reducible rfl)); simp only [Act.put, List.setIfInBounds_toArray, List.set_cons_zero, List.set_cons_succ, List.getElem_toArray, List.getElem_cons_zero, List.getElem_cons_succ])
      refine wpPlan_act rfl (by rfl) (fun K hK => ?_)
      go_simp
      refine HI.out.mono ?_
      rintro e w1 hx
      rcases hx with ⟨x, outs1, used1, rfl, hx96, hm1, hu1, ho1, hf1⟩ | ⟨st, code, o1, u1, rfl, g1, g2⟩
      rotate_left
      · exact ⟨rfl, .inr ⟨rfl, st, code, o1, u1, rfl, g1, (MFr.of_ext hD hBB).trans g2⟩⟩
      have hf01 := (MFr.of_ext hD hBB).trans hf1
      obtain ⟨y, hy, hcy, -⟩ := hm1.m.mem x hx96
      have hxi : (x : Int) < 96 := by omega
      have HM1 := Lib.hid hm1
      have HF1 := Lib.hid hf01
      obtain ⟨d0, d1, d2, d3, d4, d6, d7⟩ := HC.out w1 hf01.below
      clear hm1 hf1 hf01 c0 c1 c2 c3 c4 c6 c7
      refine hK _ _ (fun _ => ⟨d1, d2, d3, d4, d6⟩) ?_
      clear hK K
      try simp only [Act.put, List.setIfInBounds_toArray, List.set_cons_zero, List.set_cons_succ]
      refine wpPlan_act rfl (by rfl) (fun K hK => ?_)
      go_simp
      refine hK _ _ (fun _ => ⟨d1, d2, d3, d4, d6⟩) ?_
      clear hK K
      try simp only [Act.put, List.setIfInBounds_toArray, List.set_cons_zero, List.set_cons_succ]
      refine wpPlan_act rfl (by rfl) (fun K hK => ?_)
      go_simp
      refine hK _ _ (fun _ => ⟨d1, d2, d3, d4, d6⟩) ?_
      clear hK K
      try simp only [Act.put, List.setIfInBounds_toArray, List.set_cons_zero, List.set_cons_succ]
      refine wpPlan_act rfl (by rfl) (fun K hK => ?_)
      go_simp
      refine hK _ _ (fun h => absurd rfl h) ?_
      clear hK K
      refine ⟨rfl, ?_⟩
      go_wp2_with fail
      go_ret
      exact XPost.of (by omega) HM1.out hu1 ho1 HF1.out
    · rw [constE1 _ _ _ _ _ (by omega)]
      go_enter Tryz.func117, Tryz.ntmps117
      go_wp2_with fail
      refine (HL.out w mb ub mpb n fuel used outs vl HM.out HAL.out hhi hol' HNL.out).mono ?_
      rintro e w1 hx
      rcases hx with ⟨x, outs1, used1, rfl, hx32, hm1, hu1, ho1, hf1, hex1⟩ | ⟨hcn, hend⟩
      rotate_left
      · obtain ⟨st, code, o1, u1, rfl, g1, g2⟩ := hend
        exact ⟨rfl, .inr ⟨rfl, st, code, o1, u1, rfl, g1, g2⟩⟩
      have HM1 := Lib.hid hm1
      have HF1 := Lib.hid hf1
      have HX1 := Lib.hid hex1
      obtain ⟨d0, d1, d2, d3, d4, d6, d7⟩ := HC.out w1 hf1.below
      clear hm1 hf1 hex1 c0 c1 c2 c3 c4 c6 c7
      by_cases t1 : t.text.toList = [45]
      · have q1 : (t.text.toList == [45]) = true := by simpa using t1
        clear t1
        go_wp2_with fail
        go_ret
        exact XPost.of (by first | exact wrap32_range _ | exact ⟨Int.emod_nonneg _ (by omega), Int.emod_lt_of_pos _ (by omega)⟩) HM1.out hu1 ho1 HF1.out
      · have q1 : (t.text.toList == [45]) = false := by simpa using t1
        by_cases t2 : t.text.toList = [126]
        · have q2 : (t.text.toList == [126]) = true := by simpa using t2
          clear t1 t2
          go_wp2_with fail
          go_ret
          exact XPost.of (by first | exact wrap32_range _ | exact ⟨Int.emod_nonneg _ (by omega), Int.emod_lt_of_pos _ (by omega)⟩ | omega | (trace_state; simp; omega)) HM1.out hu1 ho1 HF1.out
        · have q2 : (t.text.toList == [126]) = false := by simpa using t2
          clear t1 t2
          go_wp2_with fail
          refine (truth_any _ _).mono ?_
          rintro e w3 ⟨⟨z, hz, rfl⟩, rfl⟩
          go_wp2_with fail
          go_ret
          exact XPost.of ⟨by omega, by omega⟩ HM1.out hu1 ho1 HF1.out
    · rw [constE6]
      go_enter Tryz.func117, Tryz.ntmps117
      go_wp2_with fail
      refine (HL.out w mb ub mpb n fuel used outs vl HM.out HAL.out hhi hol' HNL.out).mono ?_
      rintro e w1 hx
      rcases hx with ⟨x, outs1, used1, rfl, hx32, hm1, hu1, ho1, hf1, hex1⟩ | ⟨hcn, hend⟩
      rotate_left
      · obtain ⟨st, code, o1, u1, rfl, g1, g2⟩ := hend
        exact ⟨rfl, .inr ⟨hcn, st, code, o1, u1, rfl, g1, g2⟩⟩
      have HM1 := Lib.hid hm1
      have HF1 := Lib.hid hf1
      have HX1 := Lib.hid hex1
      obtain ⟨d0, d1, d2, d3, d4, d6, d7⟩ := HC.out w1 hf1.below
      clear hm1 hf1 hex1 c0 c1 c2 c3 c4 c6 c7
      go_wp2_with fail
      go_ret
      exact .inl ⟨x, outs1, used1, rfl, hx32, HM1.out, hu1, ho1, HF1.out, HX1.out⟩
    · rw [constE5]
      have HP := Lib.hid (pair_any l r HL.out HR.out w mb ub mpb n fuel used eb outs t.text vl vr HM.out heb c2 c6 c7 HAL.out HAR.out hhi hol' hor HNL.out HNR.out)
      go_enter Tryz.func117, Tryz.ntmps117
      go_wp2_with fail
      refine HP.out.mono ?_
      rintro e w1 hx
      rcases hx with ⟨x, outs1, used1, rfl, hx32, hm1, hu1, ho1, hf1, hex1⟩ | ⟨hcn, hend⟩
      rotate_left
      · obtain ⟨st, code, o1, u1, rfl, g1, g2⟩ := hend
        exact ⟨rfl, .inr ⟨hcn, st, code, o1, u1, rfl, g1, g2⟩⟩
      have HM1 := Lib.hid hm1
      have HF1 := Lib.hid hf1
      have HX1 := Lib.hid hex1
      clear hm1 hf1 hex1
      go_wp2_with fail
      go_ret
      exact .inl ⟨x, outs1, used1, rfl, hx32, HM1.out, hu1, ho1, HF1.out, HX1.out⟩
  | _ => intro w mb ub mpb n fuel used outs v h ha hhi hok hn; exact hok.elim
end Go.Proofs.YtgjgaeloehfhiaaGreatDoor
end
section
/- Lists and loops, told. -/
namespace Go.Proofs.YtgjgaeloehfhiaaGreatDoor
open Go.RowKit


/-- What a statement comes to that emits such an expression. -/
def constS : Ast → Option Nat
  | .stm k _ e _ _ _ _ => if k = 4 then constE e else none
  | _ => none
def constI : List Ast → Option Nat
  | [h] => constS h
  | _ => none

/-- What a statement or a list leaves: how it is left, or the end. c: the one word that it emits. -/
def SPost (mb base ub mpb n fuel : Nat) (L : Places) (w : World) (outs : List (Int × Nat)) (used : Nat) (c : Option Nat) (e : Ending) (w' : World) : Prop :=
  (∃ (how : Nat) (outs' : List (Int × Nat)) (used' : Nat), e = .returned (.int .i64 (how : Int)) ∧ how ≤ 2 ∧ MIn w' mb base ub mpb n fuel L outs' used' ∧ used ≤ used' ∧ outs'.length + used ≤ outs.length + used' ∧ MFr base mb w w' ∧ (∀ y, c = some y → how = 0 ∧ outs' = outs ++ [(14, y)] ∧ used' = used + 1)) ∨
  ((c = none ∨ used = fuel) ∧ Ended mb base ub fuel w e w')

def SmC (base hi lo : Nat) (L : Places) (a : Ast) : Prop := ∀ (w : World) (mb ub mpb n fuel used : Nat) (outs : List (Int × Nat)) (v : Value), MIn w mb base ub mpb n fuel L outs used → AstAt w lo hi a v → hi ≤ base → a.okS → (∃ loops, chkF L a loops = none) → a.sz ≤ 300000 →
  Calls Tryz.prog 72 #[.pointer (some ⟨mb, 0, none⟩), v] w (SPost mb base ub mpb n fuel L w outs used (constS a))
def LmC (base hi lo : Nat) (L : Places) (a : Ast) : Prop := ∀ (w : World) (mb ub mpb n fuel used : Nat) (outs : List (Int × Nat)) (v : Value), MIn w mb base ub mpb n fuel L outs used → AstAt w lo hi a v → hi ≤ base → a.okS → a.isL → (∃ loops, chkF L a loops = none) → a.sz ≤ 300000 →
  Calls Tryz.prog 40 #[.pointer (some ⟨mb, 0, none⟩), v] w (SPost mb base ub mpb n fuel L w outs used (constI a.items))

theorem chk_items {L : Places} {loops : Nat} : ∀ {l : List Ast}, chkL L loops l = none → ∀ x ∈ l, chkF L x loops = none
  | [], _ => by simp
  | a :: l, h => by
    simp only [chkL, Option.or_eq_none_iff] at h
    intro x hx
    rcases List.mem_cons.1 hx with rfl | hx
    · exact h.1
    · exact chk_items h.2 x hx

theorem constI_len : ∀ (its : List Ast) (y : Nat), constI its = some y → its.length = 1
  | [_], _, _ => rfl
  | [], _, h => by cases h
  | _ :: _ :: _, _, h => by cases h
theorem constI_at : ∀ (its : List Ast) (k : Nat) (hk : k < its.length) (y : Nat), constI its = some y → k = 0 ∧ constS its[k] = some y ∧ its.length = 1
  | [_], 0, _, _, h => ⟨rfl, h, rfl⟩
  | [_], k + 1, hk, _, _ => by simp at hk
  | [], _, hk, _, _ => by simp at hk
  | _ :: _ :: _, _, _, _, h => by cases h
/-- The loop over a list. -/
structure LmRel (mb base ub mpb n fuel : Nat) (L : Places) (w : World) (outs : List (Int × Nat)) (used : Nat) (c : Option Nat) (k : Nat) (wr : World) (outs' : List (Int × Nat)) (used' : Nat) : Prop where
  m : MIn wr mb base ub mpb n fuel L outs' used'
  u : used ≤ used'
  o : outs'.length + used ≤ outs.length + used'
  f : MFr base mb w wr
  x : ∀ y, c = some y → (k = 0 → outs' = outs ∧ used' = used) ∧ (k ≠ 0 → outs' = outs ++ [(14, y)] ∧ used' = used + 1)

set_option maxRecDepth 100000 in
set_option maxHeartbeats 3200000 in
theorem list_tells {base hi lo : Nat} {L : Places} (l : Ast) (hs : ∀ x ∈ l.items, x.isStm → SmC base hi lo L x) : LmC base hi lo L l := by
  intro w mb ub mpb n fuel used outs v h ha hhi hok hl hck hsz
  have hln := items_len hl
  have hiz := @items_sz l
  obtain ⟨loops, hck⟩ := hck
  rw [chkF_items L loops hl] at hck
  have hit := okS_items hok hl
  have hci := chk_items hck
  obtain ⟨a, c, rfl, hel⟩ := list_at ha hl
  have HEL : Hid (∀ (i : Nat) (x : Ast), l.items[i]? = some x → ∃ b off u, a = some ⟨b, off, none⟩ ∧ lo ≤ b ∧ b < hi ∧ w.cell? ⟨b, off + i, none⟩ = some u ∧ AstAt w lo hi x u) := Lib.hid hel
  have HIT := Lib.hid (show ∀ x ∈ l.items, SmC base hi lo L x ∧ x.okS ∧ (∃ loops, chkF L x loops = none) ∧ x.sz ≤ 300000 from fun x hx => ⟨hs x hx (hit x hx).2, (hit x hx).1, ⟨loops, hci x hx⟩, by have := hiz x hx; omega⟩)
  have hlen : l.items.length ≤ 300000 := by omega
  have hC1 := fun (k : Nat) (hk : k < l.items.length) y (hy : constI l.items = some y) => constI_at l.items k hk y hy
  have hC0 := fun y (hy : constI l.items = some y) => constI_len l.items y hy
  have HC1 := Lib.hid hC1
  have HC0 := Lib.hid hC0
  have HREL : Hid (LmRel mb base ub mpb n fuel L w outs used (constI l.items) 0 w outs used) := Lib.hid ⟨h, Nat.le_refl _, Nat.le_refl _, MFr.refl _ _ _, fun y _ => ⟨fun _ => ⟨rfl, rfl⟩, fun h => absurd rfl h⟩⟩
  clear hs hok hl hck ha hel hit hci hC1 hC0 h hln hiz hsz
  generalize hI : l.items = items at *
  clear hI
  generalize constI items = C at *
  go_enter Tryz.func40, Tryz.ntmps40
  go_wp2_with fail
  go_loopw [10] (fun i wr => ∃ (k : Nat) (outs' : List (Int × Nat)) (used' : Nat), k ≤ items.length ∧ i = .int .i64 k ∧ Hid (LmRel mb base ub mpb n fuel L w outs used C k wr outs' used')) (fun i _ => items.length - (intOf i).toNat)
  case atStart => exact ⟨0, outs, used, by omega, rfl, HREL⟩
  case round =>
    obtain ⟨k, outs1, used1, hk, rfl, HR⟩ := hrel
    clear HREL
    by_cases hlt : k < items.length
    · obtain ⟨b', off, u, rfl, hb1, hb2, hcell, hau⟩ := HEL.out k items[k] (List.getElem?_eq_getElem hlt)
      obtain ⟨hS, hok, hck, hz⟩ := HIT.out items[k] (List.getElem_mem hlt)
      have hc1 := HC1.out k hlt
      have hcall := hS wr mb ub mpb n fuel used1 outs1 u HR.out.m (ast_below HR.out.f.below hhi hau) hhi hok hck hz
      have hcell2 : wr.cell? ⟨b', off + k, none⟩ = some u := (HR.out.f.below.cell (p := ⟨b', off + k, none⟩) (by show b' < base; omega)).trans hcell
      have HK := Lib.hid hcall
      have HC := Lib.hid hc1
      clear hcall hcell hau hS hok hck hc1 hz
      generalize constS items[k] = cx at *
      generalize items[k] = x at *
      go_wp2_with fail
      refine HK.out.mono ?_
      rintro e w2 hx
      rcases hx with ⟨how, outs2, used2, rfl, hhow, hm2, hu2, ho2, hf2, hex2⟩ | ⟨hcn, hend⟩
      rotate_left
      · obtain ⟨st, code, o1, u1, rfl, g1, g2⟩ := hend
        refine ⟨rfl, ?_⟩
        show SPost mb base ub mpb n fuel L w outs used C _ _
        refine .inr ⟨?_, st, code, o1, u1, rfl, g1, HR.out.f.trans g2⟩
        cases C with
        | none => exact .inl rfl
        | some y =>
          obtain ⟨rfl, hcx, -⟩ := HC.out y rfl
          have := ((HR.out.x y rfl).1 rfl).2
          rcases hcn with h | h
          · rw [h] at hcx; cases hcx
          · exact .inr (by omega)
      by_cases h0 : how = 0
      · subst h0
        have HL : Hid (LmRel mb base ub mpb n fuel L w outs used C (k + 1) w2 outs2 used2) := by
          refine Lib.hid ⟨hm2, by have := HR.out.u; omega, by have := HR.out.o; omega, HR.out.f.trans hf2, fun y hy => ⟨fun h => by omega, fun _ => ?_⟩⟩
          obtain ⟨rfl, hcx, -⟩ := HC.out y hy
          obtain ⟨-, e1, e2⟩ := hex2 y hcx
          obtain ⟨e3, e4⟩ := (HR.out.x y hy).1 rfl
          rw [e3] at e1
          exact ⟨e1, by omega⟩
        clear hm2 hf2 hex2
        go_wp2_with fail
        all_goals exact ⟨⟨k + 1, outs2, used2, by omega, by go_num, HL⟩, by simp [intOf]; omega⟩
      · have hne : ((how : Int) != 0) = true := by rw [bne_iff_ne]; omega
        have HM2 := Lib.hid hm2
        have HF2 := Lib.hid hf2
        have HX2 := Lib.hid hex2
        clear hm2 hf2 hex2
        go_wp2_with fail
        go_ret
        refine .inl ⟨how, outs2, used2, rfl, hhow, HM2.out, by have := HR.out.u; omega, by have := HR.out.o; omega, HR.out.f.trans HF2.out, fun y hy => ?_⟩
        obtain ⟨rfl, hcx, -⟩ := HC.out y hy
        exact absurd (HX2.out y hcx).1 h0
    · have hkk : k = items.length := by omega
      subst hkk
      go_wp2_with fail
      go_ret
      refine .inl ⟨0, outs1, used1, rfl, by omega, HR.out.m, HR.out.u, HR.out.o, HR.out.f, fun y hy => ⟨rfl, (HR.out.x y hy).2 (by have := HC0.out y hy; omega)⟩⟩

/-- What a loop leaves. -/
def LPost (mb base ub mpb n fuel : Nat) (L : Places) (w : World) (outs : List (Int × Nat)) (used : Nat) (e : Ending) (w' : World) : Prop :=
  (∃ (outs' : List (Int × Nat)) (used' : Nat), e = .returned (.tuple #[]) ∧ MIn w' mb base ub mpb n fuel L outs' used' ∧ used ≤ used' ∧ outs'.length + used ≤ outs.length + used' ∧ MFr base mb w w') ∨
  Ended mb base ub fuel w e w'

set_option maxRecDepth 100000 in
set_option maxHeartbeats 3200000 in
theorem loop_tells {base hi lo : Nat} {L : Places} (x bl : Ast) (hl : LmC base hi lo L bl) (w : World) (mb ub mpb n fuel used sb bb : Nat) (outs : List (Int × Nat)) (ve vl : Value) (h : MIn w mb base ub mpb n fuel L outs used) (hsb : sb < base) (hbb : bb < base)
    (c5 : w.cell? ⟨sb, 5, none⟩ = some ve) (c7 : w.cell? ⟨sb, 7, none⟩ = some (.pointer (some ⟨bb, 0, none⟩))) (c1 : w.cell? ⟨bb, 1, none⟩ = some vl) (hae : AstAt w lo hi x ve) (hal : AstAt w lo hi bl vl) (hhi : hi ≤ base) (hox : x.okE) (hob : bl.okS) (hil : bl.isL) (hnx : namedF L x = none) (hck : ∃ loops, chkF L bl loops = none) (hsz : bl.sz ≤ 300000) :
    Calls Tryz.prog 119 #[.pointer (some ⟨mb, 0, none⟩), .pointer (some ⟨sb, 0, none⟩)] w (LPost mb base ub mpb n fuel L w outs used) := by
  have hcell : ∀ w', Below base w w' → w'.cell? ⟨sb, 5, none⟩ = some ve ∧ w'.cell? ⟨sb, 7, none⟩ = some (.pointer (some ⟨bb, 0, none⟩)) ∧ w'.cell? ⟨bb, 1, none⟩ = some vl := fun w' hb => ⟨(hb.cell (p := ⟨sb, 5, none⟩) hsb).trans c5, (hb.cell (p := ⟨sb, 7, none⟩) hsb).trans c7, (hb.cell (p := ⟨bb, 1, none⟩) hbb).trans c1⟩
  have HE := Lib.hid (fun w' outs' used' (hm : MIn w' mb base ub mpb n fuel L outs' used') (hb : Below base w w') => expr_any x w' mb ub mpb n fuel used' outs' ve hm (ast_below hb hhi hae) hhi hox hnx)
  have HL := Lib.hid (fun w' outs' used' (hm : MIn w' mb base ub mpb n fuel L outs' used') (hb : Below base w w') => hl w' mb ub mpb n fuel used' outs' vl hm (ast_below hb hhi hal) hhi hob hil hck hsz)
  have HC := Lib.hid hcell
  have HM := Lib.hid h
  have hf6 := h.f6
  clear hcell hl h hae hal hox hob hil hnx hck c5 c7 c1
  go_enter Tryz.func119, Tryz.ntmps119
  go_wp2_with fail
  go_loopg [] (fuel - used) (fun m wr => ∃ (outs' : List (Int × Nat)) (used' : Nat), m = fuel - used' ∧ Hid (MIn wr mb base ub mpb n fuel L outs' used') ∧ used ≤ used' ∧ outs'.length + used ≤ outs.length + used' ∧ Hid (MFr base mb w wr))
  case atStart => exact ⟨outs, used, rfl, HM, Nat.le_refl _, Nat.le_refl _, Lib.hid (MFr.refl _ _ _)⟩
  case round =>
    obtain ⟨outs1, used1, rfl, HM1, hu1, ho1, HF1⟩ := hrel
    have hfu := HM1.out.fu
    have hol := HM1.out.ol
    by_cases huf : used1 = fuel
    · have HSP := Lib.hid (spend_end wr HM1.out.m HM1.out.hB huf)
      go_wp2_with fail
      refine HSP.out.mono ?_
      rintro e w2 ⟨rfl, hE⟩
      refine ⟨rfl, ?_⟩
      show LPost mb base ub mpb n fuel L w outs used _ _
      exact .inr ⟨1, 0, outs1, used1, rfl, HM1.out.m.ext hE, HF1.out.trans (.of_ext hE HM1.out.hB)⟩
    · have HSP := Lib.hid (spend_on wr HM1.out.m HM1.out.hB (by omega) hf6)
      go_wp2_with fail
      refine HSP.out.mono ?_
      rintro e w2 ⟨rfl, hm2, hf2⟩
      have HM2 := Lib.hid (HM1.out.step hm2 hf2 (by omega) (by omega))
      have HF2 := Lib.hid (HF1.out.trans hf2)
      obtain ⟨d5, d7, d1⟩ := HC.out w2 HF2.out.below
      clear hm2 hf2
      go_wp2_with fail
      refine (HE.out w2 outs1 (used1 + 1) HM2.out HF2.out.below).mono ?_
      rintro e w3 hx
      rcases hx with ⟨x3, outs3, used3, rfl, hx32, hm3, hu3, ho3, hf3, -⟩ | ⟨-, st, code, o1, u1, rfl, g1, g2⟩
      rotate_left
      · refine ⟨rfl, ?_⟩
        show LPost mb base ub mpb n fuel L w outs used _ _
        exact .inr ⟨st, code, o1, u1, rfl, g1, HF2.out.trans g2⟩
      have HM3 := Lib.hid hm3
      have HF3 := Lib.hid (HF2.out.trans hf3)
      have hfu3 := hm3.fu
      clear d5 d7 d1
      obtain ⟨d5, d7, d1⟩ := HC.out w3 HF3.out.below
      clear hm3 hf3
      by_cases h0 : x3 = 0
      · subst h0
        go_wp2_with fail
        go_end0
        exact .inl ⟨outs3, used3, rfl, HM3.out, by omega, by omega, HF3.out⟩
      · have e1 : ((x3 : Int) == 0) = false := by simp; omega
        go_wp2_with fail
        refine (HL.out w3 outs3 used3 HM3.out HF3.out.below).mono ?_
        rintro e w4 hx
        rcases hx with ⟨how, outs4, used4, rfl, hhow, hm4, hu4, ho4, hf4, -⟩ | ⟨-, st, code, o1, u1, rfl, g1, g2⟩
        rotate_left
        · refine ⟨rfl, ?_⟩
          show LPost mb base ub mpb n fuel L w outs used _ _
          exact .inr ⟨st, code, o1, u1, rfl, g1, HF3.out.trans g2⟩
        have HM4 := Lib.hid hm4
        have HF4 := Lib.hid (HF3.out.trans hf4)
        have hfu4 := hm4.fu
        clear hm4 hf4
        by_cases h1 : how = 1
        · subst h1
          go_wp2_with fail
          go_end0
          exact .inl ⟨outs4, used4, rfl, HM4.out, by omega, by omega, HF4.out⟩
        · have e2 : ((how : Int) == 1) = false := by simp; omega
          go_wp2_with fail
          go_roundg (fuel - used4)
          case measure => omega
          case rel => exact ⟨outs4, used4, rfl, HM4, by omega, by omega, HF4⟩
end Go.Proofs.YtgjgaeloehfhiaaGreatDoor
end
