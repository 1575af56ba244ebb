/- The reader's operands, all of them; its expressions. -/
import Derived.Test.YtgjgaeloehfhiaaGreatDoorM13
namespace Go.Proofs.YtgjgaeloehfhiaaGreatDoor
open Go.RowKit

theorem operand_reads {toks : List Tok} {f : Nat} (ih1 : Reads toks f (.expr 1)) (ih2 : Reads toks f .operand) : Reads toks (f + 1) .operand := by
  intro w rb lb cap at_ N h hG hN hf
  show Calls Tryz.prog 136 #[.pointer (some ⟨rb, 0, none⟩)] w _
  by_cases h3 : (toks.getD at_ default).kind = 3
  · exact operand_number w h h3
  by_cases h2 : (toks.getD at_ default).kind = 2
  · cases hn : isB (toks.getD (at_ + 1) default) ⟨#[91]⟩ with
    | false => exact operand_name w h h2 hn
    | true =>
      cases hx : pr toks f (.expr 1) (at_ + 1 + 1) with
      | error ln => exact operand_idx_bad w h h2 hn ih1 hG hN hf hx
      | ok r =>
        obtain ⟨x, a⟩ := r
        cases hc : isB (toks.getD a default) ⟨#[93]⟩ with
        | true => exact operand_idx_ok w h h2 hn ih1 hG hN hf hx hc
        | false => exact operand_idx_end w h h2 hn ih1 hG hN hf hx hc
  cases h4 : isB (toks.getD at_ default) ⟨#[97, 115, 107]⟩ with
  | true => exact operand_ask w h h3 h2 h4
  | false =>
  cases h5 : isB (toks.getD at_ default) ⟨#[40]⟩ with
  | true =>
    cases hx : pr toks f (.expr 1) (at_ + 1) with
    | error ln => exact operand_par_bad w h h3 h2 h4 h5 ih1 hG hN hf hx
    | ok r =>
      obtain ⟨x, a⟩ := r
      cases hc : isB (toks.getD a default) ⟨#[41]⟩ with
      | true => exact operand_par_ok w h h3 h2 h4 h5 ih1 hG hN hf hx hc
      | false => exact operand_par_end w h h3 h2 h4 h5 ih1 hG hN hf hx hc
  | false =>
  cases h6 : isB (toks.getD at_ default) ⟨#[45]⟩ with
  | true =>
    cases hx : pr toks f .operand (at_ + 1) with
    | error ln => exact operand_neg_bad w h h3 h2 h4 h5 h6 ih2 hG hN hf hx
    | ok r => obtain ⟨x, a⟩ := r; exact operand_neg_ok w h h3 h2 h4 h5 h6 ih2 hG hN hf hx
  | false =>
  cases h7 : isB (toks.getD at_ default) ⟨#[33]⟩ with
  | true =>
    cases hx : pr toks f .operand (at_ + 1) with
    | error ln => exact operand_not_bad w h h3 h2 h4 h5 h6 h7 ih2 hG hN hf hx
    | ok r => obtain ⟨x, a⟩ := r; exact operand_not_ok w h h3 h2 h4 h5 h6 h7 ih2 hG hN hf hx
  | false =>
  cases h8 : isB (toks.getD at_ default) ⟨#[126]⟩ with
  | true =>
    cases hx : pr toks f .operand (at_ + 1) with
    | error ln => exact operand_til_bad w h h3 h2 h4 h5 h6 h7 h8 ih2 hG hN hf hx
    | ok r => obtain ⟨x, a⟩ := r; exact operand_til_ok w h h3 h2 h4 h5 h6 h7 h8 ih2 hG hN hf hx
  | false => exact operand_give w h h3 h2 h4 h5 h6 h7 h8

/-- How many tokens are left to the reader. -/
def rdLeft (rb n : Nat) (w : World) : Nat := match w.cell? ⟨rb, 1, none⟩ with | some (.int _ a) => n - a.toNat | _ => 0
theorem rdLeft_eq {w : World} {rb lb cap at_ : Nat} {toks : List Tok} (h : RdAt w rb lb cap toks at_) : rdLeft rb toks.length w = toks.length - at_ := by
  simp [rdLeft, h.h1]

/-- The state of the loop over operators. -/
def ExprRel (toks : List Tok) (f tight rb lb cap _ : Nat) (w : World) (R : PRes) (v : Value) (wr : World) : Prop :=
  ∃ (g : Nat) (e : Ast) (a : Nat), g ≤ f ∧ pr toks g (.rest tight e) a = R ∧ 3 * (toks.length - a) + 1 ≤ g ∧ e.isExp ∧ Kp rb w wr ∧ RdAt wr rb lb cap toks a ∧ AstAt wr w.heap.size wr.heap.size e v

set_option maxRecDepth 100000 in
set_option maxHeartbeats 1000000 in
theorem expr_reads {toks : List Tok} {f : Nat} (tight : Nat) (h1t : 1 ≤ tight) (ih1 : ∀ g, g ≤ f → ∀ t, 1 ≤ t → Reads toks g (.expr t)) (ih2 : Reads toks f .operand) : Reads toks (f + 1) (.expr tight) := by
  intro w rb lb cap at_ N h hG hN hf
  show Calls Tryz.prog 100 #[.pointer (some ⟨rb, 0, none⟩), .int .i64 tight] w _
  have hop := ih2 w rb lb cap at_ N h hG hN (by simp only [need] at *; omega)
  simp only [fnOf, argsOf] at hop
  cases hx : pr toks f .operand at_ with
  | error ln =>
    have hspec : pr toks (f + 1) (.expr tight) at_ = .error ln := by simp only [pr]; rw [hx]
    rw [hspec]
    rw [hx] at hop
    clear hspec hx ih1 ih2
    go_enter Tryz.func100, Tryz.ntmps100
    go_wp2_with fail
    go_step3
    go_wp2_with fail
    refine hop.mono ?_
    rintro e w1 ⟨rfl, hk⟩
    exact ⟨rfl, rfl, hk⟩
  | ok r =>
    obtain ⟨e0, a0⟩ := r
    have hspec : pr toks (f + 1) (.expr tight) at_ = pr toks f (.rest tight e0) a0 := by simp only [pr]; rw [hx]
    have hX := pr_isExp toks f _ _ _ _ hx
    have hle := pr_least toks f _ _ _ _ hx
    simp only [What.least] at hle
    have hal := h.at_lt
    have sr0 := h.sr
    rw [hspec]
    rw [hx] at hop
    clear hspec hx
    have HOP := Lib.hid hop
    have HG := Lib.hid hG
    have IH := Lib.hid ih1
    clear hop hG ih1 ih2 h
    go_enter Tryz.func100, Tryz.ntmps100
    go_wp2_with fail
    go_step3
    go_wp2_with fail
    refine HOP.out.mono ?_
    rintro e w1 ⟨v1, rfl, hk, hr, ha⟩
    have HREL : Hid (ExprRel toks f tight rb lb cap N w (pr toks f (.rest tight e0) a0) v1 w1) := ⟨f, e0, a0, Nat.le_refl f, rfl, by simp only [need] at hf; omega, hX, hk, hr, ha⟩
    clear hk hr ha
    generalize pr toks f (.rest tight e0) a0 = R at *
    go_wp2_with fail
    go_step3
    go_wp2_with fail
    go_loopw [5] (fun v wr => ExprRel toks f tight rb lb cap N w R v wr) (fun _ wr => rdLeft rb toks.length wr)
    case atStart => exact HREL.out
    case round =>
      obtain ⟨g, e, a, hg, hR, hneed, hX, hk, hr, ha⟩ := hrel
      obtain ⟨g, rfl⟩ : ∃ m, g = m + 1 := ⟨g - 1, by omega⟩
      obtain ⟨eb, rfl, eb1, eb2⟩ := ha.ptr_exp hX
      have hal2 := hr.at_lt
      have hp := peek_any wr hr
      have htk := fun w' (hb : Ext wr w') => take_ok w' (hr.keep hb)
      have HT := fun w' (hb : Ext wr w') => tightness_any w' (toks.getD a default).text ((HG.out.kp hN hk).ext hb).ops
      have srb := hr.sr
      have slb := hr.sl
      have sk := hk.size
      by_cases hstop : tightOf (toks.getD a default) < tight ∨ tightOf (toks.getD a default) = 0
      · have hRR : R = .ok (e, a) := by rw [← hR]; simp only [pr]; rw [if_pos hstop]
        have HS := Lib.hid hstop
        have HRR := Lib.hid hRR
        have HK := Lib.hid hk
        have HR := Lib.hid hr
        have HA := Lib.hid ha
        clear hstop hRR hR hk hr ha htk
        generalize toks.getD a default = t at *
        obtain ⟨kind, text, line, num⟩ := t
        by_cases hkd : kind = 0
        · subst hkd
          simp only [tightOf, if_true] at HS
          simp only at HT
          have HS' := HS
          clear HS
          generalize tightF text.toList = n at *
          have HT' := Lib.hid HT
          clear HT
          have hs := HS'.out
          clear HS'
          by_cases hlt : n < tight
          · clear hs
            go_wp2_with fail
            refine hp.mono ?_
            rintro e' w2 ⟨rfl, hb2⟩
            go_wp2_with fail
            refine (HT'.out _ (hb2.alloc _)).mono ?_
            rintro e' w3 ⟨rfl, hb3⟩
            go_wp2_with fail
            rw [Exit.noGoto_ret]
            go_ret
            rw [HRR.out]
            have hb := (hb2.alloc _).trans hb3
            exact ⟨_, rfl, HK.out.ext hb, HR.out.keep hb, hb.ast (Nat.le_refl _) (Nat.le_refl _) hb.size HA.out⟩
          · have hn : n = 0 := by omega
            subst hn
            exfalso; omega
        · have e0 : ((kind : Int) == 0) = false := by rw [beq_eq_false_iff_ne]; omega
          clear HT
          go_wp2_with fail
          refine hp.mono ?_
          rintro e' w2 ⟨rfl, hb2⟩
          go_wp2_with fail
          rw [Exit.noGoto_ret]
          go_ret
          rw [HRR.out]
          exact ⟨_, rfl, (HK.out.ext hb2).ext ((Ext.refl _).alloc _), (HR.out.keep hb2).alloc _, ((hb2.alloc _).ast (Nat.le_refl _) (Nat.le_refl _) (by rw [szA]; have := hb2.size; omega) HA.out)⟩
      · have hkd : (toks.getD a default).kind = 0 := by
          by_cases hkd : (toks.getD a default).kind = 0
          · exact hkd
          · exfalso; exact hstop (.inr (by unfold tightOf; rw [if_neg hkd]))
        have hn0 : tightOf (toks.getD a default) = tightF (toks.getD a default).text.toList := by unfold tightOf; rw [if_pos hkd]
        have htk' := fun w' (hb : Ext wr w') => htk w' hb (by omega) (by omega)
        simp only [pr] at hR
        rw [if_neg hstop] at hR
        rw [hn0] at hR hstop
        have i1 := fun w' a' => IH.out g (by omega) (tightF (toks.getD a default).text.toList + 1) (by omega) w' rb lb cap (a + 1) N a'
        clear htk hn0
        obtain ⟨k, t', ln', l', r', rfl⟩ : ∃ k t' ln' l' r', e = .exp k t' ln' l' r' := by
          cases e <;> simp only [Ast.isExp] at hX
          exact ⟨_, _, _, _, _, rfl⟩
        have HR0 := Lib.hid hR
        have HI := Lib.hid i1
        have HK := Lib.hid hk
        have HR := Lib.hid hr
        have HA := Lib.hid ha
        obtain ⟨eb', vl, vr, heb', -, -, hec, hal', har'⟩ := ha
        have hee : eb' = eb := by
          simp only [Value.pointer.injEq, Option.some.injEq, Addr.mk.injEq] at heb'
          exact heb'.1.symm
        subst hee
        have HEC := Lib.hid hec
        clear hR i1 hk hr hec hal' har' heb'
        have hge : ¬ (tightF (toks.getD a default).text.toList < tight) := fun h => hstop (.inl h)
        have hgz : ¬ (tightF (toks.getD a default).text.toList = 0) := fun h => hstop (.inr h)
        clear hstop
        generalize toks.getD a default = t at *
        obtain ⟨kind, text, line, num⟩ := t
        simp only at hkd
        subst hkd
        simp only at HT HR0 HI hge hgz
        have HT' := Lib.hid HT
        clear HT
        have hn9 := tightF_le text.toList
        generalize tightF text.toList = n at *
        have hz : ((n : Int) == 0) = false := by rw [beq_eq_false_iff_ne]; omega
        go_wp2_with fail
        refine hp.mono ?_
        rintro e' w2 ⟨rfl, hb2⟩
        go_wp2_with fail
        refine (HT'.out _ (hb2.alloc _)).mono ?_
        rintro e' w3 ⟨rfl, hb3⟩
        have x2 := hb2.size
        have x3 := hb3.size
        simp only [szA] at x3
        have HB3 := Lib.hid ((hb2.alloc _).trans hb3)
        have HE3 : Hid (w3.heap[w2.heap.size]? = some (.cells #[.int .i64 0, .string text, .int .i64 line, .int .u32 num] 69 (0, 0))) := by
          show _ = _
          rw [hb3.block _ (by rw [szA]; omega), heapA, if_pos rfl]
        clear hb3 hb2
        go_wp2_with fail
        refine (htk' _ HB3.out).mono ?_
        rintro e' w4 ⟨rfl, hk4, hr4⟩
        have x4 := hk4.size
        have HE4 : Hid (w4.heap[w2.heap.size]? = some (.cells #[.int .i64 0, .string text, .int .i64 line, .int .u32 num] 69 (0, 0))) := by
          show _ = _
          rw [hk4.heap _ (by omega) (by omega), HE3.out]
        have HEB4 : Hid (w4.heap[eb']? = some (.cells #[.int .i64 k, .int .i64 t'.kind, .string t'.text, .int .i64 t'.line, .int .u32 t'.num, .int .i64 ln', vl, vr] 197 (0, 0))) := by
          show _ = _
          rw [hk4.heap _ (by omega) (by omega), HB3.out.block _ (by omega), HEC.out]
        have HK4 := Lib.hid ((HB3.out.kp rb).trans hk4)
        have HR4 := Lib.hid hr4
        clear HE3 HEC hk4 hr4
        have hj : 3 * (toks.length - (a + 1)) + 2 ≤ g := by omega
        have hc0 := cell_of_heap (o := 0) HE4.out
        have hc1 := cell_of_heap (o := 1) HE4.out
        have hc2 := cell_of_heap (o := 2) HE4.out
        have hc3 := cell_of_heap (o := 3) HE4.out
        have hc5 := cell_of_heap (o := 5) HEB4.out
        simp only [List.getElem?_toArray, List.getElem?_cons_zero, List.getElem?_cons_succ] at hc0 hc1 hc2 hc3 hc5
        go_wp2_with fail
        have hex : Calls Tryz.prog 100 #[.pointer (some ⟨rb, 0, none⟩), .int .i64 ((n : Int) + 1)] w4.drew (PPost w4.drew rb lb cap toks (pr toks g (.expr (n + 1)) (a + 1))) :=
          HI.out _ HR4.out.drew ((HG.out.kp hN (HK.out.trans HK4.out)).ext ((Ext.refl _).drew)) hN hj
        cases hx : pr toks g (.expr (n + 1)) (a + 1) with
        | error ln =>
          have HR00 : Hid (.error ln = R) := by
            show _ = _
            rw [← HR0.out, hx]
          rw [hx] at hex
          have HX := Lib.hid hex
          clear hex hx
          have hw := IntWalk.i64_in ((n : Int) + 1) (by omega)
          refine wp_region_plan (fun w' => w'.cell? ⟨w2.heap.size, 0, none⟩ = some (.int .i64 0) ∧ w'.cell? ⟨w2.heap.size, 1, none⟩ = some (.string text) ∧ w'.cell? ⟨w2.heap.size, 2, none⟩ = some (.int .i64 line) ∧ w'.cell? ⟨w2.heap.size, 3, none⟩ = some (.int .u32 num) ∧ w'.cell? ⟨eb', 5, none⟩ = some (.int .i64 ln'))
            [(0, true), (1, true), (2, true), (3, true), (4, true), (5, true), (6, true), (7, true), (8, true), (9, false)] false (by kernel_rfl) (by kernel_rfl) (fun c a d v w h => by cases d <;> exact h) ⟨hc0, hc1, hc2, hc3, hc5⟩ ?_
          iterate 9 (refine ⟨_, ?_, rfl, Or.inl ⟨by rfl, ?_⟩, ?_⟩; rotate_left; (· intro w' hSw; (try dsimp only at hSw); go_simp; (try with_reducible rfl)); simp only [Act.put, List.setIfInBounds_toArray])
          refine wpPlan_act rfl (by rfl) (fun K hK => ?_)
          go_simp
          refine HX.out.mono ?_
          rintro e' w6 ⟨rfl, hk6⟩
          refine ⟨rfl, ?_⟩
          show PPost w rb lb cap toks R _ _
          rw [← HR00.out]
          exact ⟨rfl, (HK.out.trans HK4.out).trans (((Ext.refl _).drew.kp rb).trans hk6)⟩
        | ok r =>
          obtain ⟨x, b⟩ := r
          have HR00 : Hid (pr toks g (.rest tight (.exp 5 ⟨0, text, line, num⟩ ln' (.exp k t' ln' l' r') x)) b = R) := by
            show _ = _
            rw [← HR0.out, hx]
            rfl
          have hxx := pr_isExp toks g _ _ _ _ hx
          have hxl := pr_least toks g _ _ _ _ hx
          simp only [What.least] at hxl
          rw [hx] at hex
          have HX := Lib.hid hex
          clear hex hx
          have hw := IntWalk.i64_in ((n : Int) + 1) (by omega)
          refine wp_region_plan (fun w' => w'.cell? ⟨w2.heap.size, 0, none⟩ = some (.int .i64 0) ∧ w'.cell? ⟨w2.heap.size, 1, none⟩ = some (.string text) ∧ w'.cell? ⟨w2.heap.size, 2, none⟩ = some (.int .i64 line) ∧ w'.cell? ⟨w2.heap.size, 3, none⟩ = some (.int .u32 num) ∧ w'.cell? ⟨eb', 5, none⟩ = some (.int .i64 ln'))
            [(0, true), (1, true), (2, true), (3, true), (4, true), (5, true), (6, true), (7, true), (8, true), (9, false), (10, true), (11, false), (12, true)] true (by kernel_rfl) (by kernel_rfl) (fun c a d v w h => by cases d <;> exact h) ⟨hc0, hc1, hc2, hc3, hc5⟩ ?_
          iterate 9 (refine ⟨_, ?_, rfl, Or.inl ⟨by rfl, ?_⟩, ?_⟩; rotate_left; (· intro w' hSw; (try dsimp only at hSw); go_simp; (try with_reducible rfl)); simp only [Act.put, List.setIfInBounds_toArray])
          refine wpPlan_act rfl (by rfl) (fun K hK => ?_)
          go_simp
          refine HX.out.mono ?_
          rintro e' w6 ⟨v6, rfl, hk6, hr6, ha6⟩
          obtain ⟨b6, rfl, b61, b62⟩ := ha6.ptr_exp hxx
          have x6 := hk6.size
          simp only [szD] at x6 b61 ha6
          clear hw
          have d0 := (hk6.cell _ _ (by rw [szD]; omega) (by omega)).trans hc0
          have d1 := (hk6.cell _ _ (by rw [szD]; omega) (by omega)).trans hc1
          have d2 := (hk6.cell _ _ (by rw [szD]; omega) (by omega)).trans hc2
          have d3 := (hk6.cell _ _ (by rw [szD]; omega) (by omega)).trans hc3
          have d5 := (hk6.cell _ _ (by rw [szD]; omega) (by omega)).trans hc5
          refine hK _ _ (fun _ => ⟨d0, d1, d2, d3, d5⟩) ?_
          try simp only [Act.put, List.setIfInBounds_toArray, List.set_cons_zero, List.set_cons_succ]
          (refine ⟨_, ?_, rfl, Or.inl ⟨by rfl, ?_⟩, ?_⟩; rotate_left; (· intro w' hSw; (try dsimp only at hSw); go_simp; (try with_reducible rfl)); simp only [Act.put, List.setIfInBounds_toArray])
          refine wpPlan_act rfl (by rfl) (fun K hK => ?_)
          go_simp
          have HB6 := (Ext.refl w6).alloc
          refine hK _ _ (fun _ => ⟨((HB6 _).cell _ _ (by omega)).trans d0, ((HB6 _).cell _ _ (by omega)).trans d1, ((HB6 _).cell _ _ (by omega)).trans d2, ((HB6 _).cell _ _ (by omega)).trans d3, ((HB6 _).cell _ _ (by omega)).trans d5⟩) ?_
          (refine ⟨_, ?_, rfl, Or.inl ⟨by rfl, ?_⟩, ?_⟩; rotate_left; (· intro w' hSw; (try dsimp only at hSw); go_simp; (try with_reducible rfl)); simp only [Act.put, List.setIfInBounds_toArray])
          refine ⟨rfl, ?_⟩
          clear d0 d1 d2 d3 d5 hc0 hc1 hc2 hc3 hc5 HB6
          go_wp2_with fail
          have HK6 : Kp rb wr w6 := HK4.out.trans (((Ext.refl _).drew.kp rb).trans hk6)
          refine ⟨⟨g, _, b, by omega, HR00.out, by omega, trivial, (HK.out.trans HK6).alloc _, hr6.alloc _, ?_⟩, ?_⟩
          · refine AstAt.exp1 (by omega) (by rw [szA]; omega) (by rw [heapA, if_pos rfl]; rfl) ?_ ?_
            · exact (HK6.alloc _).ast sr0 (Nat.le_refl _) (Nat.le_refl _) (by rw [szA]; omega) HA.out
            · exact ((Ext.refl w6).alloc _).ast (Nat.le_refl _) (by omega) (by rw [szA]; omega) ha6
          · rw [rdLeft_eq (hr6.alloc _), rdLeft_eq HR.out]
            omega
end Go.Proofs.YtgjgaeloehfhiaaGreatDoor
