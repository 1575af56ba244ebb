/- The machine's surroundings; an element's place. -/
import Derived.Test.YtgjgaeloehfhiaaGreatDoorM11
import Derived.Test.YtgjgaeloehfhiaaGreatDoorM34
import Derived.Test.YtgjgaeloehfhiaaGreatDoorM03
section
namespace Go.Proofs.YtgjgaeloehfhiaaGreatDoor
open Go.RowKit

/-- A machine at work, with what it reads. -/
structure MIn (w : World) (mb base ub mpb n fuel : Nat) (L : Places) (outs : List (Int × Nat)) (used : Nat) : Prop where
  m : MAt w mb base ub fuel outs used
  hB : base ≤ w.heap.size
  hub : ub < base
  map : w.cell? ⟨ub, 1, none⟩ = some (.map (some mpb))
  pl : PlacesAt w mpb n L
  hmp : mpb < base
  lr : LRange L
  fu : used ≤ fuel
  f6 : fuel ≤ 65536
  ol : outs.length ≤ used + 1
theorem MIn.step {w w' : World} {mb base ub mpb n fuel used used' : Nat} {L : Places} {outs outs' : List (Int × Nat)} (h : MIn w mb base ub mpb n fuel L outs used) (hm : MAt w' mb base ub fuel outs' used') (hf : MFr base mb w w') (hu : used' ≤ fuel) (ho : outs'.length ≤ used' + 1) : MIn w' mb base ub mpb n fuel L outs' used' :=
  ⟨hm, by have := hf.below.size; have := h.hB; omega, h.hub, (hf.below.cell (p := ⟨ub, 1, none⟩) h.hub).trans h.map, h.pl.keep (hf.below.block _ h.hmp), h.hmp, h.lr, hu, h.f6, ho⟩
theorem MIn.ext {w w' : World} {mb base ub mpb n fuel used : Nat} {L : Places} {outs : List (Int × Nat)} (h : MIn w mb base ub mpb n fuel L outs used) (hE : Ext w w') : MIn w' mb base ub mpb n fuel L outs used :=
  h.step (h.m.ext hE) (.of_ext hE h.hB) h.fu h.ol

/-- A name that was declared: its place. -/
theorem used_at {L : Places} {t : Tok} {ix : Bool} (hl : LRange L) (h : usedF L t ix = none) : ∃ a z : Nat, L t.text.data.toList = some ((a : Int), (z : Int)) ∧ 384 ≤ a ∧ a + max 1 z ≤ 480 ∧ (ix = true → 0 < z) := by
  unfold usedF at h
  split at h
  · cases h
  · rename_i p hp
    obtain ⟨h1, h2, h3⟩ := hl _ p hp
    refine ⟨p.1.toNat, p.2.toNat, ?_, by omega, by omega, fun hx => ?_⟩
    · rw [hp]
      have e1 : ((p.1.toNat : Nat) : Int) = p.1 := by omega
      have e2 : ((p.2.toNat : Nat) : Int) = p.2 := by omega
      rw [e1, e2]
    · subst hx
      split at h
      · rename_i hh
        have : 0 < p.2 := by simpa using hh.symm
        omega
      · cases h
theorem MIn.look {w : World} {mb base ub mpb n fuel used : Nat} {L : Places} {outs : List (Int × Nat)} (h : MIn w mb base ub mpb n fuel L outs used) {text : ByteArray} (ht : text.size ≤ 100000) {a z : Int} (hp : L text.data.toList = some (a, z)) :
    (Instr.lookup 48 (.map (some mpb)) (.string text) false).run Tryz.prog w = .ok (.agg #[.int .i64 a, .int .u32 z]) w := by
  have := h.pl.look false text (Nat.le_trans ht (by simp [maxLen]))
  rw [hp] at this
  simpa [lookV] using this

/-- What evaluating an expression leaves: a word, or the end. c: what it must come to, nothing else being changed. -/
def XPost (mb base ub mpb n fuel : Nat) (L : Places) (w : World) (outs : List (Int × Nat)) (used : Nat) (c : Option Nat) (e : Ending) (w' : World) : Prop :=
  (∃ (x : Nat) (outs' : List (Int × Nat)) (used' : Nat), e = .returned (.int .u32 (x : Int)) ∧ x < 4294967296 ∧ MIn w' mb base ub mpb n fuel L outs' used' ∧ used ≤ used' ∧ outs'.length + used ≤ outs.length + used' ∧ MFr base mb w w' ∧ (∀ y, c = some y → x = y ∧ outs' = outs ∧ used' = used)) ∨
  (c = none ∧ Ended mb base ub fuel w e w')
theorem Ended.then {mb base ub fuel : Nat} {w w1 w2 : World} {e : Ending} (h : MFr base mb w w1) (k : Ended mb base ub fuel w1 e w2) : Ended mb base ub fuel w e w2 := by
  obtain ⟨st, code, outs, used, e1, e2, e3⟩ := k
  exact ⟨st, code, outs, used, e1, e2, h.trans e3⟩

/-- What an expression comes to that is made of numbers, + and *. -/
def constE : Ast → Option Nat
  | .exp k t _ l r =>
    if k = 0 then some t.num
    else if k = 6 then constE l
    else if k = 5 ∧ (t.text.toList = [43] ∨ t.text.toList = [42]) then
      match constE l, constE r with
      | some a, some b => some (if t.text.toList = [43] then (a + b) % 4294967296 else a * b % 4294967296)
      | _, _ => none
    else none
  | _ => none

def ExC (base hi lo : Nat) (L : Places) (e : Ast) : Prop := ∀ (w : World) (mb ub mpb n fuel used : Nat) (outs : List (Int × Nat)) (v : Value), MIn w mb base ub mpb n fuel L outs used → AstAt w lo hi e v → hi ≤ base → e.okE → namedF L e = none →
  Calls Tryz.prog 117 #[.pointer (some ⟨mb, 0, none⟩), v] w (XPost mb base ub mpb n fuel L w outs used (constE e))

/-- What finding an element leaves. -/
def IPost (mb base ub mpb n fuel : Nat) (L : Places) (w : World) (outs : List (Int × Nat)) (used : Nat) (e : Ending) (w' : World) : Prop :=
  (∃ (x : Nat) (outs' : List (Int × Nat)) (used' : Nat), e = .returned (.int .i64 (x : Int)) ∧ x < 96 ∧ MIn w' mb base ub mpb n fuel L outs' used' ∧ used ≤ used' ∧ outs'.length + used ≤ outs.length + used' ∧ MFr base mb w w') ∨
  Ended mb base ub fuel w e w'

theorem MIn.cell0 {w : World} {mb base ub mpb n fuel used : Nat} {L : Places} {outs : List (Int × Nat)} (h : MIn w mb base ub mpb n fuel L outs used) : w.cell? ⟨mb, 0, none⟩ = some (.pointer (some ⟨ub, 0, none⟩)) := by
  obtain ⟨v, hc, -, -⟩ := h.m.cells
  exact hc.c0

set_option maxRecDepth 100000 in
set_option maxHeartbeats 6400000 in
theorem index_any {base hi lo : Nat} {L : Places} (l : Ast) (hl : ExC base hi lo L l) (w : World) (mb ub mpb n fuel used : Nat) (outs : List (Int × Nat)) (t : Tok) (v : Value) (h : MIn w mb base ub mpb n fuel L outs used) (ha : AstAt w lo hi l v) (hhi : hi ≤ base) (hok : l.okE) (hn : namedF L l = none)
    (ht : t.text.size ≤ 100000) (hu : usedF L t true = none) :
    Calls Tryz.prog 118 #[.pointer (some ⟨mb, 0, none⟩), t.val, v] w (IPost mb base ub mpb n fuel L w outs used) := by
  obtain ⟨a, z, hp, h1, h2, h3⟩ := used_at h.lr hu
  have hz := h3 rfl
  obtain ⟨kind, text, line, num⟩ := t
  simp only at hp ht
  have hlow := h.m.low
  have hmb := h.m.cells.choose_spec.2.2
  have hBB := h.hB
  have HM := Lib.hid h
  have HAT := Lib.hid ha
  have HL := Lib.hid hl
  have HOK := Lib.hid hok
  have HN := Lib.hid hn
  have HP := Lib.hid hp
  clear h ha hl hok hn hp h3 hu
  have hE1 : Ext w ((w.alloc (.cells #[.int .i64 kind, .string text, .int .i64 line, .int .u32 num] 69)).drew) := ((Ext.refl w).alloc _).drew
  have hS : ∀ w', Ext ((w.alloc (.cells #[.int .i64 kind, .string text, .int .i64 line, .int .u32 num] 69)).drew) w' → w'.cell? ⟨mb, 0, none⟩ = some (.pointer (some ⟨ub, 0, none⟩)) ∧ w'.cell? ⟨ub, 1, none⟩ = some (.map (some mpb)) ∧ w'.cell? ⟨w.heap.size, 1, none⟩ = some (.string text) ∧ (Instr.lookup 48 (.map (some mpb)) (.string text) false).run Tryz.prog w' = .ok (.agg #[.int .i64 a, .int .u32 z]) w' := fun w' hE => by
    have hm := HM.out.ext (hE1.trans hE)
    refine ⟨hm.cell0, hm.map, ?_, hm.look ht HP.out⟩
    have hb : w'.heap[w.heap.size]? = some (.cells #[.int .i64 kind, .string text, .int .i64 line, .int .u32 num] 69 (0, 0)) := by
      rw [hE.block _ (by rw [szD, szA]; omega), heapD, heapA, if_pos rfl]
    exact cell_of_heap (o := 1) hb
  have HS := Lib.hid hS
  clear hS
  go_enter Tryz.func118, Tryz.ntmps118
  go_wp2_with fail
  refine wp_region_plan (fun w' => w'.cell? ⟨mb, 0, none⟩ = some (.pointer (some ⟨ub, 0, none⟩)) ∧ w'.cell? ⟨ub, 1, none⟩ = some (.map (some mpb)) ∧ w'.cell? ⟨w.heap.size, 1, none⟩ = some (.string text) ∧ (Instr.lookup 48 (.map (some mpb)) (.string text) false).run Tryz.prog w' = .ok (.agg #[.int .i64 a, .int .u32 z]) w')
    [(0, true), (1, true), (2, true), (3, true), (4, true), (5, true), (6, true), (7, true), (8, true), (9, true), (10, false), (11, false)] true (by kernel_rfl) (by kernel_rfl) (fun c a d v w h => by cases d <;> exact h) (HS.out _ (Ext.refl _)) ?_
  iterate 10 (refine ⟨_, ?_, rfl, Or.inl ⟨by rfl, ?_⟩, ?_⟩; rotate_left; (· intro w' hSw; (try dsimp only at hSw); go_simp; (try with_reducible rfl)); simp only [Act.put, List.setIfInBounds_toArray, List.set_cons_zero, List.set_cons_succ, List.getElem_toArray, List.getElem_cons_zero, List.getElem_cons_succ])
  refine wpPlan_act rfl (by rfl) (fun K hK => ?_)
  go_simp
  refine hK _ _ (fun _ => HS.out _ ((Ext.refl _).alloc _)) ?_
  clear hK K
  try simp only [Act.put, List.setIfInBounds_toArray, List.set_cons_zero, List.set_cons_succ]
  refine wpPlan_act rfl (by rfl) (fun K hK => ?_)
  go_simp
  refine hK _ _ (fun h => absurd rfl h) ?_
  clear hK K
  refine ⟨rfl, ?_⟩
  go_wp2_with fail
  have hE2 : Ext w (((w.alloc (.cells #[.int .i64 kind, .string text, .int .i64 line, .int .u32 num] 69)).alloc (.cells #[.int .i64 a, .int .u32 z] 82)).drew) := (((Ext.refl w).alloc _).alloc _).drew
  have hb2 : (((w.alloc (.cells #[.int .i64 kind, .string text, .int .i64 line, .int .u32 num] 69)).alloc (.cells #[.int .i64 a, .int .u32 z] 82)).drew).heap[w.heap.size + 1]? = some (.cells #[.int .i64 a, .int .u32 z] 82 (0, 0)) := by rw [heapD, heapA, if_pos (by rw [szA])]
  refine (HL.out _ mb ub mpb n fuel used outs v (HM.out.ext hE2) (hE2.ast (by omega) (Nat.le_refl _) (Nat.le_refl _) HAT.out) hhi HOK.out HN.out).mono ?_
  rintro e w2 hx
  rcases hx with ⟨x, outs', used', rfl, hx32, hm2, hu2, ho2, hf2, -⟩ | ⟨-, st, code, outs', used', rfl, hm2, hf2⟩
  · have hq := hf2.typ _ _ hb2 (by omega) (fun c f hh => by cases hh)
    have d0 := cell_of_heap (o := 0) hq
    have d1 := cell_of_heap (o := 1) hq
    simp only [List.getElem?_toArray, List.getElem?_cons_zero, List.getElem?_cons_succ] at d0 d1
    have HM2 := Lib.hid hm2
    have HF2 := Lib.hid ((MFr.of_ext hE2 hBB).trans hf2)
    have hol := hm2.ol
    have hfu := hm2.fu
    have hf6 := hm2.f6
    clear hm2 hf2 hb2 hE2 hq HS HL HAT
    by_cases hge : z ≤ x
    · have hd : decide ((x : Int) ≥ (z : Int)) = true := by simp; omega
      have hd2 : decide ((z : Int) ≤ (x : Int)) = true := by simp; omega
      go_wp2_with fail
      refine (halt_any 4294967295 (by omega) _ HM2.out.m HM2.out.hB (by omega)).mono ?_
      rintro e w3 ⟨rfl, g1, g2⟩
      exact ⟨rfl, .inr ⟨3, _, _, _, rfl, g1, HF2.out.trans g2⟩⟩
    · have hd : decide ((x : Int) ≥ (z : Int)) = false := by simp; omega
      have hd2 : decide ((z : Int) ≤ (x : Int)) = false := by simp; omega
      have hw1 : IntKind.i64.wrap ((a : Int) - 384) = ((a - 384 : Nat) : Int) := by rw [show ((a : Int) - 384) = ((a - 384 : Nat) : Int) by omega]; exact IntWalk.i64_in _ (by omega)
      have hw2 : IntKind.i64.wrap (x : Int) = (x : Int) := IntWalk.i64_in _ (by omega)
      have hw3 : IntKind.i64.wrap (((a - 384 : Nat) : Int) + (x : Int)) = ((a - 384 + x : Nat) : Int) := by rw [show (((a - 384 : Nat) : Int) + (x : Int)) = ((a - 384 + x : Nat) : Int) by omega]; exact IntWalk.i64_in _ (by omega)
      have hx96 : a - 384 + x < 96 := by omega
      generalize a - 384 = a' at *
      go_wp2_with fail
      go_ret
      exact .inl ⟨a' + x, outs', used', rfl, hx96, HM2.out, hu2, ho2, HF2.out⟩
  · exact ⟨rfl, .inr ⟨st, code, outs', used', rfl, hm2, (MFr.of_ext hE2 hBB).trans hf2⟩⟩
end Go.Proofs.YtgjgaeloehfhiaaGreatDoor
end
section
/- Operators of two sides, told. -/
namespace Go.Proofs.YtgjgaeloehfhiaaGreatDoor
open Go.RowKit


def pairC (text : List UInt8) (a b : Option Nat) : Option Nat :=
  if text = [43] ∨ text = [42] then
    match a, b with
    | some a, some b => some (if text = [43] then (a + b) % 4294967296 else a * b % 4294967296)
    | _, _ => none
  else none
theorem pairC_l (t : List UInt8) (b : Option Nat) : pairC t none b = none := by unfold pairC; split <;> rfl
theorem pairC_r (t : List UInt8) (a : Option Nat) : pairC t a none = none := by unfold pairC; split <;> cases a <;> rfl
theorem pairC_no {t : List UInt8} (a b : Option Nat) (h1 : t ≠ [43]) (h2 : t ≠ [42]) : pairC t a b = none := by unfold pairC; rw [if_neg]; rintro (h | h) <;> contradiction
theorem pairC_some {t : List UInt8} {a b : Option Nat} {y : Nat} (h : pairC t a b = some y) : ∃ p q, a = some p ∧ b = some q ∧ ((t = [43] ∧ y = (p + q) % 4294967296) ∨ (t = [42] ∧ y = p * q % 4294967296)) := by
  unfold pairC at h
  split at h
  · rename_i ht
    cases a with
    | none => cases h
    | some p =>
      cases b with
      | none => cases h
      | some q =>
        refine ⟨p, q, rfl, rfl, ?_⟩
        simp only [Option.some.injEq] at h
        rcases ht with rfl | rfl
        · exact .inl ⟨rfl, by rw [← h]; rfl⟩
        · exact .inr ⟨rfl, by rw [← h]; rfl⟩
  · cases h
theorem u32_quo {x y : Nat} (hx : x < 4294967296) : ((x : Int).tdiv (y : Int)) = ((x / y : Nat) : Int) ∧ x / y < 4294967296 := ⟨by rw [Int.tdiv_eq_ediv_of_nonneg (by omega)]; exact (Int.natCast_ediv x y).symm, Nat.lt_of_le_of_lt (Nat.div_le_self x y) hx⟩

/-- The end of what is told, nothing in particular being asked. -/
theorem XPost.of {mb base ub mpb n fuel used used' : Nat} {L : Places} {w w' : World} {outs outs' : List (Int × Nat)} {z : Int} (hz : 0 ≤ z ∧ z < 4294967296) (hm : MIn w' mb base ub mpb n fuel L outs' used') (hu : used ≤ used') (ho : outs'.length + used ≤ outs.length + used') (hf : MFr base mb w w') :
    XPost mb base ub mpb n fuel L w outs used none (.returned (.int .u32 z)) w' := by
  obtain ⟨x, hx, rfl⟩ := nat32 hz
  exact .inl ⟨x, outs', used', rfl, hx, hm, hu, ho, hf, fun y hy => by cases hy⟩

set_option maxRecDepth 100000 in
set_option maxHeartbeats 6400000 in
theorem pair_any {base hi lo : Nat} {L : Places} (l r : Ast) (hl : ExC base hi lo L l) (hr : ExC base hi lo L r) (w : World) (mb ub mpb n fuel used eb : Nat) (outs : List (Int × Nat)) (text : ByteArray) (vl vr : Value) (h : MIn w mb base ub mpb n fuel L outs used) (heb : eb < base)
    (c2 : w.cell? ⟨eb, 2, none⟩ = some (.string text)) (c6 : w.cell? ⟨eb, 6, none⟩ = some vl) (c7 : w.cell? ⟨eb, 7, none⟩ = some vr) (hal : AstAt w lo hi l vl) (har : AstAt w lo hi r vr) (hhi : hi ≤ base) (hol : l.okE) (hor : r.okE) (hnl : namedF L l = none) (hnr : namedF L r = none) :
    Calls Tryz.prog 153 #[.pointer (some ⟨mb, 0, none⟩), .pointer (some ⟨eb, 0, none⟩)] w (XPost mb base ub mpb n fuel L w outs used (pairC text.toList (constE l) (constE r))) := by
  have hcell : ∀ w', Below base w w' → w'.cell? ⟨eb, 2, none⟩ = some (.string text) ∧ w'.cell? ⟨eb, 6, none⟩ = some vl ∧ w'.cell? ⟨eb, 7, none⟩ = some vr := fun w' hb => ⟨(hb.cell (p := ⟨eb, 2, none⟩) heb).trans c2, (hb.cell (p := ⟨eb, 6, none⟩) heb).trans c6, (hb.cell (p := ⟨eb, 7, none⟩) heb).trans c7⟩
  have HL := Lib.hid (hl w mb ub mpb n fuel used outs vl h hal hhi hol hnl)
  have HR := Lib.hid (fun w' outs' used' (hm : MIn w' mb base ub mpb n fuel L outs' used') (hb : Below base w w') => hr w' mb ub mpb n fuel used' outs' vr hm (ast_below hb hhi har) hhi hor hnr)
  have HC := Lib.hid hcell
  have hBB := h.hB
  have hou := h.ol
  clear hcell hl hr h hal har hol hor hnl hnr
  generalize constE l = cl at *
  generalize constE r = cr at *
  by_cases h0 : text.toList = [38, 38]
  · have q0 : (text.toList == [38, 38]) = true := by simpa using h0
    have n43 : text.toList ≠ [43] := by rw [h0]; decide
    have n42 : text.toList ≠ [42] := by rw [h0]; decide
    rw [pairC_no _ _ n43 n42]
    clear n43 n42
    have q1 : (text.toList == [124, 124]) = false := by rw [h0]; decide
    have q2 : (text.toList == [47]) = false := by rw [h0]; decide
    have q3 : (text.toList == [37]) = false := by rw [h0]; decide
    clear h0
    go_enter Tryz.func153, Tryz.ntmps153
    go_wp2_with fail
    refine HL.out.mono ?_
    rintro e w1 hx
    rcases hx with ⟨x, outs1, used1, rfl, hx32, hm1, hu1, ho1, hf1, hex1⟩ | ⟨hcn, hend⟩
    rotate_left
    · obtain ⟨st, code, o1, u1, rfl, g1, g2⟩ := hend
      exact ⟨rfl, .inr ⟨rfl, st, code, o1, u1, rfl, g1, g2⟩⟩
    obtain ⟨d2, d6, d7⟩ := HC.out w1 hf1.below
    have HM1 := Lib.hid hm1
    have HF1 := Lib.hid hf1
    have HX1 := Lib.hid hex1
    have hfu1 := hm1.fu
    have hf6 := hm1.f6
    have hol1 := hm1.ol
    clear hm1 hf1 hex1 c2 c6 c7 HL
    by_cases hx0 : x = 0
    · subst hx0
      go_wp2_with fail
      go_ret
      exact XPost.of (by omega) HM1.out hu1 ho1 HF1.out
    · have e1 : ((x : Int) == 0) = false := by simp; omega
      have e2 : ((x : Int) != 0) = true := by rw [bne_iff_ne]; omega
      go_wp2_with fail
      refine (HR.out w1 outs1 used1 HM1.out HF1.out.below).mono ?_
      rintro e w2 hx
      rcases hx with ⟨y, outs2, used2, rfl, hy32, hm2, hu2, ho2, hf2, hex2⟩ | ⟨hcn, hend⟩
      rotate_left
      · obtain ⟨st, code, o1, u1, rfl, g1, g2⟩ := hend
        exact ⟨rfl, .inr ⟨rfl, st, code, o1, u1, rfl, g1, HF1.out.trans g2⟩⟩
      have HF2 := Lib.hid (HF1.out.trans hf2)
      clear d2 d6 d7
      obtain ⟨d2, d6, d7⟩ := HC.out w2 HF2.out.below
      have HM2 := Lib.hid hm2
      have HX2 := Lib.hid hex2
      have hfu2 := hm2.fu
      have hol2 := hm2.ol
      clear hm2 hf2 hex2 HR HM1 HF1
      go_wp2_with fail
      refine (truth_any _ _).mono ?_
      rintro e w3 ⟨⟨z, hz, rfl⟩, rfl⟩
      go_wp2_with fail
      go_ret
      exact XPost.of ⟨by omega, by omega⟩ HM2.out (by omega) (by omega) HF2.out
  have q0 : (text.toList == [38, 38]) = false := by simpa using h0
  by_cases h1 : text.toList = [124, 124]
  · have q1 : (text.toList == [124, 124]) = true := by simpa using h1
    have n43 : text.toList ≠ [43] := by rw [h1]; decide
    have n42 : text.toList ≠ [42] := by rw [h1]; decide
    rw [pairC_no _ _ n43 n42]
    clear n43 n42
    have q2 : (text.toList == [47]) = false := by rw [h1]; decide
    have q3 : (text.toList == [37]) = false := by rw [h1]; decide
    clear h1
    go_enter Tryz.func153, Tryz.ntmps153
    go_wp2_with fail
    refine HL.out.mono ?_
    rintro e w1 hx
    rcases hx with ⟨x, outs1, used1, rfl, hx32, hm1, hu1, ho1, hf1, hex1⟩ | ⟨hcn, hend⟩
    rotate_left
    · obtain ⟨st, code, o1, u1, rfl, g1, g2⟩ := hend
      exact ⟨rfl, .inr ⟨rfl, st, code, o1, u1, rfl, g1, g2⟩⟩
    obtain ⟨d2, d6, d7⟩ := HC.out w1 hf1.below
    have HM1 := Lib.hid hm1
    have HF1 := Lib.hid hf1
    have HX1 := Lib.hid hex1
    have hfu1 := hm1.fu
    have hf6 := hm1.f6
    have hol1 := hm1.ol
    clear hm1 hf1 hex1 c2 c6 c7 HL
    by_cases hx0 : x = 0
    rotate_left
    · have e1 : ((x : Int) == 0) = false := by simp; omega
      have e2 : ((x : Int) != 0) = true := by rw [bne_iff_ne]; omega
      go_wp2_with fail
      go_ret
      exact XPost.of (by omega) HM1.out hu1 ho1 HF1.out
    · subst hx0
      go_wp2_with fail
      refine (HR.out w1 outs1 used1 HM1.out HF1.out.below).mono ?_
      rintro e w2 hx
      rcases hx with ⟨y, outs2, used2, rfl, hy32, hm2, hu2, ho2, hf2, hex2⟩ | ⟨hcn, hend⟩
      rotate_left
      · obtain ⟨st, code, o1, u1, rfl, g1, g2⟩ := hend
        exact ⟨rfl, .inr ⟨rfl, st, code, o1, u1, rfl, g1, HF1.out.trans g2⟩⟩
      have HF2 := Lib.hid (HF1.out.trans hf2)
      clear d2 d6 d7
      obtain ⟨d2, d6, d7⟩ := HC.out w2 HF2.out.below
      have HM2 := Lib.hid hm2
      have HX2 := Lib.hid hex2
      have hfu2 := hm2.fu
      have hol2 := hm2.ol
      clear hm2 hf2 hex2 HR HM1 HF1
      go_wp2_with fail
      refine (truth_any _ _).mono ?_
      rintro e w3 ⟨⟨z, hz, rfl⟩, rfl⟩
      go_wp2_with fail
      go_ret
      exact XPost.of ⟨by omega, by omega⟩ HM2.out (by omega) (by omega) HF2.out
  have q1 : (text.toList == [124, 124]) = false := by simpa using h1
  by_cases h2 : text.toList = [47]
  · have q2 : (text.toList == [47]) = true := by simpa using h2
    have n43 : text.toList ≠ [43] := by rw [h2]; decide
    have n42 : text.toList ≠ [42] := by rw [h2]; decide
    rw [pairC_no _ _ n43 n42]
    clear n43 n42
    have q3 : (text.toList == [37]) = false := by rw [h2]; decide
    clear h2
    go_enter Tryz.func153, Tryz.ntmps153
    go_wp2_with fail
    refine HL.out.mono ?_
    rintro e w1 hx
    rcases hx with ⟨x, outs1, used1, rfl, hx32, hm1, hu1, ho1, hf1, hex1⟩ | ⟨hcn, hend⟩
    rotate_left
    · obtain ⟨st, code, o1, u1, rfl, g1, g2⟩ := hend
      exact ⟨rfl, .inr ⟨rfl, st, code, o1, u1, rfl, g1, g2⟩⟩
    obtain ⟨d2, d6, d7⟩ := HC.out w1 hf1.below
    have HM1 := Lib.hid hm1
    have HF1 := Lib.hid hf1
    have HX1 := Lib.hid hex1
    have hfu1 := hm1.fu
    have hf6 := hm1.f6
    have hol1 := hm1.ol
    clear hm1 hf1 hex1 c2 c6 c7 HL
    go_wp2_with fail
    refine (HR.out w1 outs1 used1 HM1.out HF1.out.below).mono ?_
    rintro e w2 hx
    rcases hx with ⟨y, outs2, used2, rfl, hy32, hm2, hu2, ho2, hf2, hex2⟩ | ⟨hcn, hend⟩
    rotate_left
    · obtain ⟨st, code, o1, u1, rfl, g1, g2⟩ := hend
      exact ⟨rfl, .inr ⟨rfl, st, code, o1, u1, rfl, g1, HF1.out.trans g2⟩⟩
    have HF2 := Lib.hid (HF1.out.trans hf2)
    clear d2 d6 d7
    obtain ⟨d2, d6, d7⟩ := HC.out w2 HF2.out.below
    have HM2 := Lib.hid hm2
    have HX2 := Lib.hid hex2
    have hfu2 := hm2.fu
    have hol2 := hm2.ol
    clear hm2 hf2 hex2 HR HM1 HF1
    by_cases hy0 : y = 0
    · subst hy0
      go_wp2
      exact ⟨rfl, .inr ⟨rfl, 4, 73, outs2, used2, rfl, HM2.out.m, HF2.out⟩⟩
    · have e1 : ((y : Int) == 0) = false := by simp; omega
      have e2 : ((y : Int) != 0) = true := by rw [bne_iff_ne]; omega
      have e3 : (y : Int) ≠ 0 := by omega
      go_wp2_with fail
      go_ret
      exact XPost.of ⟨Int.emod_nonneg _ (by omega), Int.emod_lt_of_pos _ (by omega)⟩ HM2.out (by omega) (by omega) HF2.out
  have q2 : (text.toList == [47]) = false := by simpa using h2
  by_cases h3 : text.toList = [37]
  · have q3 : (text.toList == [37]) = true := by simpa using h3
    have n43 : text.toList ≠ [43] := by rw [h3]; decide
    have n42 : text.toList ≠ [42] := by rw [h3]; decide
    rw [pairC_no _ _ n43 n42]
    clear n43 n42
    clear h3
    go_enter Tryz.func153, Tryz.ntmps153
    go_wp2_with fail
    refine HL.out.mono ?_
    rintro e w1 hx
    rcases hx with ⟨x, outs1, used1, rfl, hx32, hm1, hu1, ho1, hf1, hex1⟩ | ⟨hcn, hend⟩
    rotate_left
    · obtain ⟨st, code, o1, u1, rfl, g1, g2⟩ := hend
      exact ⟨rfl, .inr ⟨rfl, st, code, o1, u1, rfl, g1, g2⟩⟩
    obtain ⟨d2, d6, d7⟩ := HC.out w1 hf1.below
    have HM1 := Lib.hid hm1
    have HF1 := Lib.hid hf1
    have HX1 := Lib.hid hex1
    have hfu1 := hm1.fu
    have hf6 := hm1.f6
    have hol1 := hm1.ol
    clear hm1 hf1 hex1 c2 c6 c7 HL
    go_wp2_with fail
    refine (HR.out w1 outs1 used1 HM1.out HF1.out.below).mono ?_
    rintro e w2 hx
    rcases hx with ⟨y, outs2, used2, rfl, hy32, hm2, hu2, ho2, hf2, hex2⟩ | ⟨hcn, hend⟩
    rotate_left
    · obtain ⟨st, code, o1, u1, rfl, g1, g2⟩ := hend
      exact ⟨rfl, .inr ⟨rfl, st, code, o1, u1, rfl, g1, HF1.out.trans g2⟩⟩
    have HF2 := Lib.hid (HF1.out.trans hf2)
    clear d2 d6 d7
    obtain ⟨d2, d6, d7⟩ := HC.out w2 HF2.out.below
    have HM2 := Lib.hid hm2
    have HX2 := Lib.hid hex2
    have hfu2 := hm2.fu
    have hol2 := hm2.ol
    clear hm2 hf2 hex2 HR HM1 HF1
    by_cases hy0 : y = 0
    · subst hy0
      go_wp2
      exact ⟨rfl, .inr ⟨rfl, 4, 73, outs2, used2, rfl, HM2.out.m, HF2.out⟩⟩
    · have e1 : ((y : Int) == 0) = false := by simp; omega
      have e2 : ((y : Int) != 0) = true := by rw [bne_iff_ne]; omega
      have e3 : (y : Int) ≠ 0 := by omega
      go_wp2_with fail
      go_ret
      exact XPost.of ⟨Int.emod_nonneg _ e3, Int.lt_trans (Int.emod_lt_of_pos _ (by omega : (0 : Int) < (y : Int))) (by omega)⟩ HM2.out (by omega) (by omega) HF2.out
  have q3 : (text.toList == [37]) = false := by simpa using h3
  clear h0 h1 h2 h3
  go_enter Tryz.func153, Tryz.ntmps153
  go_wp2_with fail
  refine HL.out.mono ?_
  rintro e w1 hx
  rcases hx with ⟨x, outs1, used1, rfl, hx32, hm1, hu1, ho1, hf1, hex1⟩ | ⟨hcn, hend⟩
  rotate_left
  · obtain ⟨st, code, o1, u1, rfl, g1, g2⟩ := hend
    exact ⟨rfl, .inr ⟨by rw [hcn]; exact pairC_l _ _, st, code, o1, u1, rfl, g1, g2⟩⟩
  obtain ⟨d2, d6, d7⟩ := HC.out w1 hf1.below
  have HM1 := Lib.hid hm1
  have HF1 := Lib.hid hf1
  have HX1 := Lib.hid hex1
  have hfu1 := hm1.fu
  have hf6 := hm1.f6
  have hol1 := hm1.ol
  clear hm1 hf1 hex1 c2 c6 c7 HL
  go_wp2_with fail
  refine (HR.out w1 outs1 used1 HM1.out HF1.out.below).mono ?_
  rintro e w2 hx
  rcases hx with ⟨y, outs2, used2, rfl, hy32, hm2, hu2, ho2, hf2, hex2⟩ | ⟨hcn, hend⟩
  rotate_left
  · obtain ⟨st, code, o1, u1, rfl, g1, g2⟩ := hend
    exact ⟨rfl, .inr ⟨by rw [hcn]; exact pairC_r _ _, st, code, o1, u1, rfl, g1, HF1.out.trans g2⟩⟩
  have HF2 := Lib.hid (HF1.out.trans hf2)
  clear d2 d6 d7
  obtain ⟨d2, d6, d7⟩ := HC.out w2 HF2.out.below
  have HM2 := Lib.hid hm2
  have HX2 := Lib.hid hex2
  have hfu2 := hm2.fu
  have hol2 := hm2.ol
  clear hm2 hf2 hex2 HR HM1 HF1
  go_wp2_with fail
  refine (reckon_any text x y hx32 hy32 _).mono ?_
  rintro e w3 ⟨⟨z, hz, rfl, hza, hzm⟩, rfl⟩
  have HZA := Lib.hid hza
  have HZM := Lib.hid hzm
  clear hza hzm
  go_wp2_with fail
  go_ret
  refine .inl ⟨z, outs2, used2, rfl, hz, HM2.out, by omega, by omega, HF2.out, fun v hv => ?_⟩
  obtain ⟨p, q, h1, h2, hv'⟩ := pairC_some hv
  obtain ⟨rfl, rfl, rfl⟩ := HX1.out p h1
  obtain ⟨rfl, rfl, rfl⟩ := HX2.out q h2
  refine ⟨?_, rfl, rfl⟩
  rcases hv' with ⟨ht, rfl⟩ | ⟨ht, rfl⟩
  · exact HZA.out ht
  · exact HZM.out ht
end Go.Proofs.YtgjgaeloehfhiaaGreatDoor
end
