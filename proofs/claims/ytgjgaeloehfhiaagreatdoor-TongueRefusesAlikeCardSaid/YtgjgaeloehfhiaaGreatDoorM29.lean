/- The generator: lists, choices, loops. -/
import Derived.Test.YtgjgaeloehfhiaaGreatDoorM28
namespace Go.Proofs.YtgjgaeloehfhiaaGreatDoor
open Go.RowKit

/-- What is claimed of a statement. -/
def StmG (base mb ub N : Nat) (L : Places) (a : Ast) : Prop := ∀ (loops : Nat) (v : Value) (w : World) (bs : List Nat) (S : GSt) (lo hi : Nat), a.okS → a.isStm → chkF L a loops = none → (0 < loops → S.head.isSome = true ∧ S.tail.isSome = true) → AstAt w lo hi a v → hi ≤ base →
  GEnv w base ub N L → MkAt w base mb ub bs S → S.wf → S.out.length + 8 * a.sz ≤ 100000000 → a.sz ≤ 1000000 → Calls Tryz.prog 103 #[.pointer (some ⟨mb, 0, none⟩), v] w (GenC w base mb ub bs (genS L a S))
/-- .. and of a list. -/
def ListG (base mb ub N : Nat) (L : Places) (a : Ast) : Prop := ∀ (loops : Nat) (v : Value) (w : World) (bs : List Nat) (S : GSt) (lo hi : Nat), a.okS → a.isL → chkF L a loops = none → (0 < loops → S.head.isSome = true ∧ S.tail.isSome = true) → AstAt w lo hi a v → hi ≤ base →
  GEnv w base ub N L → MkAt w base mb ub bs S → S.wf → S.out.length + 8 * a.sz ≤ 100000000 → a.sz ≤ 1000000 → Calls Tryz.prog 59 #[.pointer (some ⟨mb, 0, none⟩), v] w (GenC w base mb ub bs (genS L a S))

def genL (L : Places) : List Ast → GSt → GSt
  | [], S => S
  | x :: l, S => genL L l (genS L x S)
theorem genS_items (L : Places) : ∀ {a : Ast}, a.isL → ∀ S, genS L a S = genL L a.items S := by
  intro a
  induction a with
  | cons h t ih1 ih2 => intro hl S; simp only [genS, Ast.items, genL, ih2 hl]
  | lnil => intro _ S; rfl
  | _ => intro h; exact h.elim
def szL : List Ast → Nat
  | [] => 0
  | x :: l => 1 + x.sz + szL l
theorem szL_items : ∀ {a : Ast}, a.isL → szL a.items = a.sz := by
  intro a
  induction a with
  | cons h t ih1 ih2 => intro hl; simp only [Ast.items, szL, Ast.sz, ih2 hl]
  | lnil => intro _; rfl
  | _ => intro h; exact h.elim
theorem szL_drop : ∀ (l : List Ast) (k : Nat), szL (l.drop k) ≤ szL l
  | [], k => by simp [szL]
  | x :: l, 0 => by simp
  | x :: l, k + 1 => by have := szL_drop l k; simp only [List.drop_succ_cons, szL]; omega
theorem chkL_drop (L : Places) (loops : Nat) : ∀ (l : List Ast) (k : Nat) (h : k < l.length), chkL L loops l = none → chkF L l[k] loops = none
  | x :: l, 0, _, h => by
    simp only [chkL] at h
    cases hx : chkF L x loops with
    | none => exact hx
    | some p => rw [hx] at h; cases h
  | x :: l, k + 1, hk, h => by
    simp only [chkL] at h
    cases hx : chkF L x loops with
    | none => rw [hx] at h; exact chkL_drop L loops l k (by simpa using hk) h
    | some p => rw [hx] at h; cases h

set_option maxRecDepth 100000 in
set_option maxHeartbeats 4000000 in
theorem list_any {base mb ub N : Nat} {L : Places} (l : Ast) (hs : ∀ x ∈ l.items, StmG base mb ub N L x) : ListG base mb ub N L l := by
  intro loops v w bs S lo hi hok hl hchk hht ha hhi henv h hw hlen hsz
  rw [genS_items L hl]
  rw [chkF_items L loops hl] at hchk
  have hit := okS_items hok hl
  have hln := items_len hl
  have hiz := @items_sz l
  have hszl := szL_items hl
  obtain ⟨a, c, rfl, hel⟩ := list_at ha hl
  have HEL : Hid (∀ (i : Nat) (x : Ast), l.items[i]? = some x → ∃ b off u, a = some ⟨b, off, none⟩ ∧ lo ≤ b ∧ b < hi ∧ w.cell? ⟨b, off + i, none⟩ = some u ∧ AstAt w lo hi x u) := Lib.hid hel
  have HIT := Lib.hid (show ∀ x ∈ l.items, StmG base mb ub N L x ∧ x.okS ∧ x.isStm ∧ x.sz ≤ 1000000 from fun x hx => ⟨hs x hx, (hit x hx).1, (hit x hx).2, by have := hiz x hx; omega⟩)
  have hlen2 : l.items.length ≤ 1000000 := by omega
  rw [← hszl] at hlen
  clear hs hok hl ha hel hit hln hiz hsz hszl
  generalize l.items = items at *
  have HENV := Lib.hid henv
  have HCHK := Lib.hid hchk
  have HHT := Lib.hid hht
  have HM0 := Lib.hid h
  have HG0 := Lib.hid (GLe.refl hw)
  have HREL : Hid (genL L (items.drop 0) S = genL L items S) := rfl
  generalize genL L items S = R at *
  clear henv hchk hht h hw
  go_enter Tryz.func59, Tryz.ntmps59
  go_wp2_with fail
  go_loopw [8] (fun i wr => ∃ (k : Nat) (bx : List Nat) (Sx : GSt) (gk : Nat), k ≤ items.length ∧ i = .int .i64 k ∧ Hid (bs <+: bx) ∧ Hid (MkAt wr base mb ub bx Sx) ∧ Hid (GFr base w wr) ∧ Hid (GLe gk S Sx) ∧ gk + 8 * szL (items.drop k) ≤ 8 * szL items ∧ Hid (genL L (items.drop k) Sx = R)) (fun i _ => items.length - (intOf i).toNat)
  case atStart => exact ⟨0, bs, S, 0, by omega, rfl, Lib.hid (List.prefix_refl bs), HM0, Lib.hid (GFr.refl base w), HG0, by simp, HREL⟩
  case round =>
    obtain ⟨k, bx, Sx, gk, hk, rfl, HBX, HMX, HFX, HGX, hgk, HSX⟩ := hrel
    clear HREL HM0 HG0
    by_cases hlt : k < items.length
    · obtain ⟨b, off, u, rfl, hb1, hb2, hcell, hau⟩ := HEL.out k items[k] (List.getElem?_eq_getElem hlt)
      obtain ⟨hS, hok, hst, hz⟩ := HIT.out items[k] (List.getElem_mem hlt)
      have hch := chkL_drop L loops items k hlt HCHK.out
      have hd := HSX.out
      rw [List.drop_eq_getElem_cons hlt] at hd hgk
      simp only [genL] at hd
      simp only [szL] at hgk
      have hcall := hS loops u wr bx Sx lo hi hok hst hch (fun h0 => by have := HHT.out h0; rw [HGX.out.head, HGX.out.tail]; exact this) (ast_below HFX.out.below hhi hau) hhi (HENV.out.keep HFX.out.below) HMX.out HGX.out.wf
        (by have := HGX.out.hi; omega) hz
      have hge := gle_genS L items[k] Sx HGX.out.wf
      have hcell2 : wr.cell? ⟨b, off + k, none⟩ = some u := (HFX.out.below.cell (p := ⟨b, off + k, none⟩) (by show b < base; omega)).trans hcell
      have HD := Lib.hid hd
      have HK := Lib.hid hcall
      have HGE := Lib.hid hge
      clear hd hcall hcell hau hS hok hst hz HSX hch hge
      generalize items[k] = x at *
      go_wp2_with fail
      refine HK.out.mono ?_
      rintro e w2 ⟨rfl, b2, hpx, h1, h2⟩
      have HM1 := Lib.hid h1
      have HF1 := Lib.hid (HFX.out.trans h2)
      have HB1 := Lib.hid (HBX.out.trans hpx)
      clear h1 h2 hpx
      go_wp2_with fail
      exact ⟨⟨k + 1, b2, _, gk + 8 * x.sz, by omega, by go_num, HB1, HM1, HF1, Lib.hid (HGX.out.trans HGE.out), by omega, HD⟩, by simp [intOf]; omega⟩
    · have hd := HSX.out
      rw [List.drop_eq_nil_of_le (by omega)] at hd
      have hd2 : Sx = R := hd
      subst hd2
      clear hd HSX
      go_wp2_with fail
      go_end0
      exact ⟨rfl, _, HBX.out, HMX.out, HFX.out⟩

theorem labPtr_form (bs : List Nat) (o : Option Nat) : ∃ q, labPtr bs o = .pointer q := by
  cases o with
  | none => exact ⟨_, rfl⟩
  | some i => exact ⟨_, rfl⟩
theorem labPtr_pre {a b : List Nat} (h : a <+: b) {o : Option Nat} (ho : ∀ i, o = some i → i < a.length) : labPtr b o = labPtr a o := by
  cases o with
  | none => rfl
  | some i => simp only [labPtr, pre_getD h (ho i rfl)]

/-- The maker's innermost loop is another. -/
theorem MkAt.setLoop {w : World} {base mb ub : Nat} {bs : List Nat} {S : GSt} (h : MkAt w base mb ub bs S) (hd tl : Option Nat) :
    MkAt ((w.setCell ⟨mb, 3, none⟩ (labPtr bs hd)).setCell ⟨mb, 4, none⟩ (labPtr bs tl)) base mb ub bs { S with head := hd, tail := tl } ∧ GFr base w ((w.setCell ⟨mb, 3, none⟩ (labPtr bs hd)).setCell ⟨mb, 4, none⟩ (labPtr bs tl)) := by
  obtain ⟨vo, vs, h1, h2, h3, h4⟩ := h
  have other : ∀ (k : Nat) (c : Array Value) (T : TypeId), w.heap[k]? = some (.cells c T (0, 0)) → T ≠ 159 → ((w.setCell ⟨mb, 3, none⟩ (labPtr bs hd)).setCell ⟨mb, 4, none⟩ (labPtr bs tl)).heap[k]? = w.heap[k]? := fun k c T hk hT => by
    have hne : k ≠ mb := by
      rintro rfl
      rw [h1] at hk
      simp at hk
      exact hT hk.2.symm
    rw [heapS, if_neg hne, heapS, if_neg hne]
  refine ⟨⟨vo, vs, ?_, h2, own_keep h3 (fun g hg => ?_) (Nat.le_refl _), h4.keep fun k c _ hk => ?_⟩, ⟨(Below.setCell (p := ⟨mb, 4, none⟩) (Below.setCell (p := ⟨mb, 3, none⟩) (Below.refl _ _) h2 _) h2 _), fun k c T hk hT => other k c T hk (by rcases hT with rfl | rfl <;> decide)⟩⟩
  · rw [heapS, if_pos rfl, heapS, if_pos rfl, h1]; rfl
  · obtain ⟨cur, hc⟩ := own_heap h3 hg
    exact other _ _ _ hc (by decide)
  · rcases hk with hk | hk
    · exact other _ _ _ hk (by decide)
    · exact other _ _ _ hk (by decide)

set_option maxRecDepth 100000 in
set_option maxHeartbeats 4000000 in
theorem choice_only {base mb ub N lo hi : Nat} {L : Places} {bs : List Nat} {S : GSt} (loops eb bb : Nat) (e lb : Ast) (ve vlb : Value) (w : World) (hE : ExpC base mb ub N L e) (hB : ListG base mb ub N L lb) (heb : eb < base) (hbb : bb < base)
    (c5 : w.cell? ⟨eb, 5, none⟩ = some ve) (c7 : w.cell? ⟨eb, 7, none⟩ = some (.pointer (some ⟨bb, 0, none⟩))) (cb : w.cell? ⟨bb, 1, none⟩ = some vlb) (hoe : e.okE) (hokb : lb.okS) (hlb : lb.isL) (hcb : chkF L lb loops = none) (hht : 0 < loops → S.head.isSome = true ∧ S.tail.isSome = true)
    (hae : AstAt w lo hi e ve) (hab : AstAt w lo hi lb vlb) (c8 : w.cell? ⟨eb, 8, none⟩ = some (.pointer none))
    (hhi : hi ≤ base) (henv : GEnv w base ub N L) (h : MkAt w base mb ub bs S) (hw : S.wf) (hlen : S.out.length + 8 * e.sz + 8 * lb.sz + 8 ≤ 100000000) (hsz : e.sz + lb.sz ≤ 1000000) :
    Calls Tryz.prog 142 #[.pointer (some ⟨mb, 0, none⟩), .pointer (some ⟨eb, 0, none⟩)] w (GenC w base mb ub bs (choiceF (genE L e 0) (genS L lb) none S)) := by
  obtain ⟨a1, a2, a3⟩ := new2_at (a := w.heap.size) (b := w.heap.size + 1) h.len
  have HNA := Lib.hid a1
  have HNB := Lib.hid a2
  have HNL := Lib.hid a3
  have hnl : S.newLab.newLab.labs.length = S.labs.length + 2 := by rw [newLab_len, newLab_len]
  have HN0 : Hid (S.labs.length < S.newLab.newLab.labs.length) := by show _ < _; omega
  have HN1 : Hid (S.labs.length + 1 < S.newLab.newLab.labs.length) := by show _ < _; omega
  have HENV := Lib.hid henv
  have HAE := Lib.hid hae
  have HAB := Lib.hid hab
  have HE := Lib.hid hE
  have HBL := Lib.hid hB
  have HOE := Lib.hid hoe
  have HOB := Lib.hid hokb
  have HLB := Lib.hid hlb
  have HCB := Lib.hid hcb
  have HHT := Lib.hid hht
  have HC5 := Lib.hid c5
  have HC7 := Lib.hid c7
  have HCBB := Lib.hid cb
  have HC8 := Lib.hid c8
  have hlen2 : S.newLab.newLab.out.length + 8 * e.sz + 8 * lb.sz + 8 ≤ 100000000 := hlen
  have HHT2 : Hid (0 < loops → S.newLab.newLab.head.isSome = true ∧ S.newLab.newLab.tail.isSome = true) := HHT.out
  have HM0 := Lib.hid (h.new2 hw henv.hb)
  have HF0 := Lib.hid (GFr.of_ext (((Ext.refl w).alloc (.cells #[.int .i64 0, .slice none 0 0] 157)).alloc (.cells #[.int .i64 0, .slice none 0 0] 157)) henv.hb)
  have HG0 := Lib.hid (GLe.refl ((gle_new (gle_new hw).wf).wf))
  have HPX := Lib.hid (List.prefix_append bs [w.heap.size, w.heap.size + 1])
  clear a1 a2 a3 henv hae hab hE hB hoe hokb hlb hcb hht c5 c7 cb c8 h hlen hnl HHT
  obtain ⟨bs0, hbs0⟩ : ∃ b, b = bs ++ [w.heap.size, w.heap.size + 1] := ⟨_, rfl⟩
  rw [← hbs0] at HM0 HNA HNB HNL HPX
  have HB0 := Lib.hid (List.prefix_refl bs0)
  have HL0 : Hid (S.labs.length < bs0.length) := by show _ < _; have := HNL.out; omega
  have HL1 : Hid (S.labs.length + 1 < bs0.length) := by show _ < _; have := HNL.out; omega
  clear hbs0
  obtain ⟨S2, hS2⟩ : ∃ x, x = S.newLab.newLab := ⟨_, rfl⟩
  obtain ⟨n, hn⟩ : ∃ x, x = S.labs.length := ⟨_, rfl⟩
  rw [← hS2] at HM0 HG0 hlen2 HN0 HN1 HHT2
  rw [← hn] at HNA HNB HN0 HN1 HL0 HL1
  have HRES : Hid (choiceF (genE L e 0) (genS L lb) none S = (((genS L lb ((genE L e 0 S2).jump 22 4 n)).land n).settle n).settle (n + 1)) := by
    show _ = _
    rw [hS2, hn]; rfl
  generalize choiceF (genE L e 0) (genS L lb) none S = RES at *
  clear hS2 hn
  go_enter Tryz.func142, Tryz.ntmps142
  have k5 := (HF0.out.below.cell (p := ⟨eb, 5, none⟩) heb).trans HC5.out
  go_wp2_with fail
  clear k5
  refine (HE.out 0 ve _ bs0 _ lo hi HOE.out (ast_below HF0.out.below hhi HAE.out) hhi (HENV.out.keep HF0.out.below) HM0.out HG0.out.wf (by have := HG0.out.hi; omega) (by omega)).mono ?_
  rintro e w1 ⟨rfl, bs1, hpx, h1, h2⟩
  have HB1 := Lib.hid (HB0.out.trans hpx)
  clear hpx
  have HM1 := Lib.hid h1
  have HF1 := Lib.hid (HF0.out.trans h2)
  have HG1 := Lib.hid (HG0.out.trans (gle_genE L e 0 _ HG0.out.wf))
  clear h1 h2
  go_wp2_with fail
  refine (jump_p 22 4 n _ _ ((pre_getD HB1.out HL0.out).trans HNA.out) HM1.out (Nat.lt_of_lt_of_le HN0.out HG1.out.labs) HG1.out.wf (by have := HG1.out.hi; omega)).mono ?_
  rintro e w2 ⟨rfl, h1, h2⟩
  have HM2 := Lib.hid h1
  have HF2 := Lib.hid (HF1.out.trans h2)
  have HG2 := Lib.hid (HG1.out.trans (gle_jump HG1.out.wf 22 4 n))
  clear h1 h2
  have k7_2 : w2.cell? ⟨eb, 7, none⟩ = some (.pointer (some ⟨bb, 0, none⟩)) := (HF2.out.below.cell (p := ⟨eb, 7, none⟩) heb).trans HC7.out
  have kb_2 : w2.cell? ⟨bb, 1, none⟩ = some (vlb) := (HF2.out.below.cell (p := ⟨bb, 1, none⟩) hbb).trans HCBB.out
  go_wp2_with fail
  refine (HBL.out loops vlb _ bs1 _ lo hi HOB.out HLB.out HCB.out (fun h0 => by have := HHT2.out h0; rw [HG2.out.head, HG2.out.tail]; exact this) (ast_below HF2.out.below hhi HAB.out) hhi (HENV.out.keep HF2.out.below) HM2.out HG2.out.wf (by have := HG2.out.hi; omega) (by omega)).mono ?_
  rintro e w3 ⟨rfl, bs2, hpx, h1, h2⟩
  have HB2 := Lib.hid (HB1.out.trans hpx)
  clear hpx
  have HM3 := Lib.hid h1
  have HF3 := Lib.hid (HF2.out.trans h2)
  have HG3 := Lib.hid (HG2.out.trans (gle_genS L lb _ HG2.out.wf))
  clear h1 h2
  clear k7_2 kb_2
  have k8_3 : w3.cell? ⟨eb, 8, none⟩ = some (.pointer none) := (HF3.out.below.cell (p := ⟨eb, 8, none⟩) heb).trans HC8.out
  go_wp2_with fail
  refine (land_p n _ _ ((pre_getD HB2.out HL0.out).trans HNA.out) HM3.out (Nat.lt_of_lt_of_le HN0.out HG3.out.labs) (by have := HG3.out.hi; omega)).mono ?_
  rintro e w4 ⟨rfl, h1, h2⟩
  have HM4 := Lib.hid h1
  have HF4 := Lib.hid (HF3.out.trans h2)
  have HG4 := Lib.hid (HG3.out.trans (gle_land HG3.out.wf n))
  clear h1 h2
  clear k8_3
  go_wp2_with fail
  refine (settle_p n _ _ ((pre_getD HB2.out HL0.out).trans HNA.out) HM4.out (Nat.lt_of_lt_of_le HN0.out HG4.out.labs) HG4.out.wf (by have := HG4.out.hi; omega)).mono ?_
  rintro e w5 ⟨rfl, h1, h2⟩
  have HM5 := Lib.hid h1
  have HF5 := Lib.hid (HF4.out.trans h2)
  have HG5 := Lib.hid (HG4.out.trans (gle_settle HG4.out.wf n))
  clear h1 h2
  go_wp2_with fail
  refine (settle_p (n + 1) _ _ ((pre_getD HB2.out HL1.out).trans HNB.out) HM5.out (Nat.lt_of_lt_of_le HN1.out HG5.out.labs) HG5.out.wf (by have := HG5.out.hi; omega)).mono ?_
  rintro e w6 ⟨rfl, h1, h2⟩
  have HM6 := Lib.hid h1
  have HF6 := Lib.hid (HF5.out.trans h2)
  have HG6 := Lib.hid (HG5.out.trans (gle_settle HG5.out.wf (n + 1)))
  clear h1 h2
  go_wp2_with fail
  go_end0
  rw [HRES.out]
  exact ⟨rfl, _, HPX.out.trans HB2.out, HM6.out, HF6.out⟩

set_option maxRecDepth 100000 in
set_option maxHeartbeats 4000000 in
theorem choice_else {base mb ub N lo hi : Nat} {L : Places} {bs : List Nat} {S : GSt} (loops eb bb : Nat) (e lb : Ast) (ve vlb : Value) (w : World) (hE : ExpC base mb ub N L e) (hB : ListG base mb ub N L lb) (heb : eb < base) (hbb : bb < base)
    (c5 : w.cell? ⟨eb, 5, none⟩ = some ve) (c7 : w.cell? ⟨eb, 7, none⟩ = some (.pointer (some ⟨bb, 0, none⟩))) (cb : w.cell? ⟨bb, 1, none⟩ = some vlb) (hoe : e.okE) (hokb : lb.okS) (hlb : lb.isL) (hcb : chkF L lb loops = none) (hht : 0 < loops → S.head.isSome = true ∧ S.tail.isSome = true)
    (hae : AstAt w lo hi e ve) (hab : AstAt w lo hi lb vlb) (lr : Ast) (_ rb : Nat) (vlr : Value) (hR : ListG base mb ub N L lr) (hrb : rb < base) (c8 : w.cell? ⟨eb, 8, none⟩ = some (.pointer (some ⟨rb, 0, none⟩))) (cr : w.cell? ⟨rb, 1, none⟩ = some vlr) (hokr : lr.okS) (hlr : lr.isL) (hcr : chkF L lr loops = none) (har : AstAt w lo hi lr vlr)
    (hhi : hi ≤ base) (henv : GEnv w base ub N L) (h : MkAt w base mb ub bs S) (hw : S.wf) (hlen : S.out.length + 8 * e.sz + 8 * lb.sz + 8 * lr.sz + 8 ≤ 100000000) (hsz : e.sz + lb.sz + lr.sz ≤ 1000000) :
    Calls Tryz.prog 142 #[.pointer (some ⟨mb, 0, none⟩), .pointer (some ⟨eb, 0, none⟩)] w (GenC w base mb ub bs (choiceF (genE L e 0) (genS L lb) (some (genS L lr)) S)) := by
  obtain ⟨a1, a2, a3⟩ := new2_at (a := w.heap.size) (b := w.heap.size + 1) h.len
  have HNA := Lib.hid a1
  have HNB := Lib.hid a2
  have HNL := Lib.hid a3
  have hnl : S.newLab.newLab.labs.length = S.labs.length + 2 := by rw [newLab_len, newLab_len]
  have HN0 : Hid (S.labs.length < S.newLab.newLab.labs.length) := by show _ < _; omega
  have HN1 : Hid (S.labs.length + 1 < S.newLab.newLab.labs.length) := by show _ < _; omega
  have HENV := Lib.hid henv
  have HAE := Lib.hid hae
  have HAB := Lib.hid hab
  have HE := Lib.hid hE
  have HBL := Lib.hid hB
  have HOE := Lib.hid hoe
  have HOB := Lib.hid hokb
  have HLB := Lib.hid hlb
  have HCB := Lib.hid hcb
  have HHT := Lib.hid hht
  have HC5 := Lib.hid c5
  have HC7 := Lib.hid c7
  have HCBB := Lib.hid cb
  have HC8 := Lib.hid c8
  have HR := Lib.hid hR
  have HCR := Lib.hid cr
  have HOR := Lib.hid hokr
  have HLR := Lib.hid hlr
  have HKR := Lib.hid hcr
  have HAR := Lib.hid har
  clear hR cr hokr hlr hcr har
  have hlen2 : S.newLab.newLab.out.length + 8 * e.sz + 8 * lb.sz + 8 * lr.sz + 8 ≤ 100000000 := hlen
  have HHT2 : Hid (0 < loops → S.newLab.newLab.head.isSome = true ∧ S.newLab.newLab.tail.isSome = true) := HHT.out
  have HM0 := Lib.hid (h.new2 hw henv.hb)
  have HF0 := Lib.hid (GFr.of_ext (((Ext.refl w).alloc (.cells #[.int .i64 0, .slice none 0 0] 157)).alloc (.cells #[.int .i64 0, .slice none 0 0] 157)) henv.hb)
  have HG0 := Lib.hid (GLe.refl ((gle_new (gle_new hw).wf).wf))
  have HPX := Lib.hid (List.prefix_append bs [w.heap.size, w.heap.size + 1])
  clear a1 a2 a3 henv hae hab hE hB hoe hokb hlb hcb hht c5 c7 cb c8 h hlen hnl HHT
  obtain ⟨bs0, hbs0⟩ : ∃ b, b = bs ++ [w.heap.size, w.heap.size + 1] := ⟨_, rfl⟩
  rw [← hbs0] at HM0 HNA HNB HNL HPX
  have HB0 := Lib.hid (List.prefix_refl bs0)
  have HL0 : Hid (S.labs.length < bs0.length) := by show _ < _; have := HNL.out; omega
  have HL1 : Hid (S.labs.length + 1 < bs0.length) := by show _ < _; have := HNL.out; omega
  clear hbs0
  obtain ⟨S2, hS2⟩ : ∃ x, x = S.newLab.newLab := ⟨_, rfl⟩
  obtain ⟨n, hn⟩ : ∃ x, x = S.labs.length := ⟨_, rfl⟩
  rw [← hS2] at HM0 HG0 hlen2 HN0 HN1 HHT2
  rw [← hn] at HNA HNB HN0 HN1 HL0 HL1
  have HRES : Hid (choiceF (genE L e 0) (genS L lb) (some (genS L lr)) S = (((genS L lr (((genS L lb ((genE L e 0 S2).jump 22 4 n)).jump 21 0 (n + 1)).land n)).land (n + 1)).settle n).settle (n + 1)) := by
    show _ = _
    rw [hS2, hn]; rfl
  generalize choiceF (genE L e 0) (genS L lb) (some (genS L lr)) S = RES at *
  clear hS2 hn
  go_enter Tryz.func142, Tryz.ntmps142
  have k5 := (HF0.out.below.cell (p := ⟨eb, 5, none⟩) heb).trans HC5.out
  go_wp2_with fail
  clear k5
  refine (HE.out 0 ve _ bs0 _ lo hi HOE.out (ast_below HF0.out.below hhi HAE.out) hhi (HENV.out.keep HF0.out.below) HM0.out HG0.out.wf (by have := HG0.out.hi; omega) (by omega)).mono ?_
  rintro e w1 ⟨rfl, bs1, hpx, h1, h2⟩
  have HB1 := Lib.hid (HB0.out.trans hpx)
  clear hpx
  have HM1 := Lib.hid h1
  have HF1 := Lib.hid (HF0.out.trans h2)
  have HG1 := Lib.hid (HG0.out.trans (gle_genE L e 0 _ HG0.out.wf))
  clear h1 h2
  go_wp2_with fail
  refine (jump_p 22 4 n _ _ ((pre_getD HB1.out HL0.out).trans HNA.out) HM1.out (Nat.lt_of_lt_of_le HN0.out HG1.out.labs) HG1.out.wf (by have := HG1.out.hi; omega)).mono ?_
  rintro e w2 ⟨rfl, h1, h2⟩
  have HM2 := Lib.hid h1
  have HF2 := Lib.hid (HF1.out.trans h2)
  have HG2 := Lib.hid (HG1.out.trans (gle_jump HG1.out.wf 22 4 n))
  clear h1 h2
  have k7_2 : w2.cell? ⟨eb, 7, none⟩ = some (.pointer (some ⟨bb, 0, none⟩)) := (HF2.out.below.cell (p := ⟨eb, 7, none⟩) heb).trans HC7.out
  have kb_2 : w2.cell? ⟨bb, 1, none⟩ = some (vlb) := (HF2.out.below.cell (p := ⟨bb, 1, none⟩) hbb).trans HCBB.out
  go_wp2_with fail
  refine (HBL.out loops vlb _ bs1 _ lo hi HOB.out HLB.out HCB.out (fun h0 => by have := HHT2.out h0; rw [HG2.out.head, HG2.out.tail]; exact this) (ast_below HF2.out.below hhi HAB.out) hhi (HENV.out.keep HF2.out.below) HM2.out HG2.out.wf (by have := HG2.out.hi; omega) (by omega)).mono ?_
  rintro e w3 ⟨rfl, bs2, hpx, h1, h2⟩
  have HB2 := Lib.hid (HB1.out.trans hpx)
  clear hpx
  have HM3 := Lib.hid h1
  have HF3 := Lib.hid (HF2.out.trans h2)
  have HG3 := Lib.hid (HG2.out.trans (gle_genS L lb _ HG2.out.wf))
  clear h1 h2
  clear k7_2 kb_2
  have k8_3 : w3.cell? ⟨eb, 8, none⟩ = some (.pointer (some ⟨rb, 0, none⟩)) := (HF3.out.below.cell (p := ⟨eb, 8, none⟩) heb).trans HC8.out
  go_wp2_with fail
  refine (jump_p 21 0 (n + 1) _ _ ((pre_getD HB2.out HL1.out).trans HNB.out) HM3.out (Nat.lt_of_lt_of_le HN1.out HG3.out.labs) HG3.out.wf (by have := HG3.out.hi; omega)).mono ?_
  rintro e w4 ⟨rfl, h1, h2⟩
  have HM4 := Lib.hid h1
  have HF4 := Lib.hid (HF3.out.trans h2)
  have HG4 := Lib.hid (HG3.out.trans (gle_jump HG3.out.wf 21 0 (n + 1)))
  clear h1 h2
  clear k8_3
  go_wp2_with fail
  refine (land_p n _ _ ((pre_getD HB2.out HL0.out).trans HNA.out) HM4.out (Nat.lt_of_lt_of_le HN0.out HG4.out.labs) (by have := HG4.out.hi; omega)).mono ?_
  rintro e w5 ⟨rfl, h1, h2⟩
  have HM5 := Lib.hid h1
  have HF5 := Lib.hid (HF4.out.trans h2)
  have HG5 := Lib.hid (HG4.out.trans (gle_land HG4.out.wf n))
  clear h1 h2
  have k8_5 : w5.cell? ⟨eb, 8, none⟩ = some (.pointer (some ⟨rb, 0, none⟩)) := (HF5.out.below.cell (p := ⟨eb, 8, none⟩) heb).trans HC8.out
  have kr_5 : w5.cell? ⟨rb, 1, none⟩ = some (vlr) := (HF5.out.below.cell (p := ⟨rb, 1, none⟩) hrb).trans HCR.out
  go_wp2_with fail
  refine (HR.out loops vlr _ bs2 _ lo hi HOR.out HLR.out HKR.out (fun h0 => by have := HHT2.out h0; rw [HG5.out.head, HG5.out.tail]; exact this) (ast_below HF5.out.below hhi HAR.out) hhi (HENV.out.keep HF5.out.below) HM5.out HG5.out.wf (by have := HG5.out.hi; omega) (by omega)).mono ?_
  rintro e w6 ⟨rfl, bs3, hpx, h1, h2⟩
  have HB3 := Lib.hid (HB2.out.trans hpx)
  clear hpx
  have HM6 := Lib.hid h1
  have HF6 := Lib.hid (HF5.out.trans h2)
  have HG6 := Lib.hid (HG5.out.trans (gle_genS L lr _ HG5.out.wf))
  clear h1 h2
  clear k8_5 kr_5
  go_wp2_with fail
  refine (land_p (n + 1) _ _ ((pre_getD HB3.out HL1.out).trans HNB.out) HM6.out (Nat.lt_of_lt_of_le HN1.out HG6.out.labs) (by have := HG6.out.hi; omega)).mono ?_
  rintro e w7 ⟨rfl, h1, h2⟩
  have HM7 := Lib.hid h1
  have HF7 := Lib.hid (HF6.out.trans h2)
  have HG7 := Lib.hid (HG6.out.trans (gle_land HG6.out.wf (n + 1)))
  clear h1 h2
  go_wp2_with fail
  refine (settle_p n _ _ ((pre_getD HB3.out HL0.out).trans HNA.out) HM7.out (Nat.lt_of_lt_of_le HN0.out HG7.out.labs) HG7.out.wf (by have := HG7.out.hi; omega)).mono ?_
  rintro e w8 ⟨rfl, h1, h2⟩
  have HM8 := Lib.hid h1
  have HF8 := Lib.hid (HF7.out.trans h2)
  have HG8 := Lib.hid (HG7.out.trans (gle_settle HG7.out.wf n))
  clear h1 h2
  go_wp2_with fail
  refine (settle_p (n + 1) _ _ ((pre_getD HB3.out HL1.out).trans HNB.out) HM8.out (Nat.lt_of_lt_of_le HN1.out HG8.out.labs) HG8.out.wf (by have := HG8.out.hi; omega)).mono ?_
  rintro e w9 ⟨rfl, h1, h2⟩
  have HM9 := Lib.hid h1
  have HF9 := Lib.hid (HF8.out.trans h2)
  have HG9 := Lib.hid (HG8.out.trans (gle_settle HG8.out.wf (n + 1)))
  clear h1 h2
  go_wp2_with fail
  go_end0
  rw [HRES.out]
  exact ⟨rfl, _, HPX.out.trans HB3.out, HM9.out, HF9.out⟩

end Go.Proofs.YtgjgaeloehfhiaaGreatDoor
