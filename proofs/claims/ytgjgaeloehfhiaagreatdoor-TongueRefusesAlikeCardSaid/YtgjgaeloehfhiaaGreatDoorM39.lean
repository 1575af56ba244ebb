/- Statements are printed. -/
import Derived.Test.YtgjgaeloehfhiaaGreatDoorM38
import Derived.Test.YtgjgaeloehfhiaaGreatDoorM37
import Derived.Test.YtgjgaeloehfhiaaGreatDoorM04
import Derived.Deep.LoopGhost
section
namespace Go.Proofs.YtgjgaeloehfhiaaGreatDoor
open Go.RowKit


/-- A printer at work. -/
structure PrIn (N B b tabs : Nat) (w : World) (l : List UInt8) : Prop where
  bld : Bld w B b 63 [.int .i64 (tabs : Int)] l
  hB : B ≤ w.heap.size
  gl : Gl N w
  tb : Tb N w
  hN : N ≤ B
theorem PrIn.ext {N B b tabs : Nat} {w w' : World} {l : List UInt8} (h : PrIn N B b tabs w l) (k : Ext w w') : PrIn N B b tabs w' l := ⟨h.bld.ext k, by have := k.size; have := h.hB; omega, h.gl.ext k, h.tb.ext k, h.hN⟩
theorem PrIn.cell {N B b tabs : Nat} {w : World} {l : List UInt8} (h : PrIn N B b tabs w l) : w.cell? ⟨b, 2, none⟩ = some (.int .i64 (tabs : Int)) ∧ w.frozen? ⟨b, 2, none⟩ = false ∧ b < w.heap.size ∧ B ≤ b := by
  obtain ⟨p, v, -, h1, h2, -, -⟩ := h.bld
  obtain ⟨q1, q2, q3⟩ := cells_of_heap h1
  exact ⟨q1 2, q2 2, q3, h2⟩
theorem PrIn.set {N B b tabs : Nat} {w : World} {l : List UInt8} (h : PrIn N B b tabs w l) (t : Nat) : PrIn N B b t (w.setCell ⟨b, 2, none⟩ (.int .i64 (t : Int))) l ∧ Below B w (w.setCell ⟨b, 2, none⟩ (.int .i64 (t : Int))) := by
  obtain ⟨p, v, hp, h1, h2, h3, h4⟩ := h.bld
  have hb : Below B w (w.setCell ⟨b, 2, none⟩ (.int .i64 (t : Int))) := Below.setCell (p := ⟨b, 2, none⟩) (Below.refl _ _) h2 _
  refine ⟨⟨⟨p, v, hp, ?_, h2, own_keep h3 (fun g hg => ?_) (Nat.le_refl _), .inr ⟨rfl, t, rfl⟩⟩, by rw [szS]; exact h.hB, h.gl.below h.hN hb, h.tb.below h.hN hb, h.hN⟩, hb⟩
  · rw [heapS, if_pos rfl, h1]; rfl
  · rw [heapS, if_neg]
    rintro rfl
    obtain ⟨cur, hcur⟩ := own_heap h3 hg
    rw [h1] at hcur
    simp at hcur

/-- What a printing leaves: m to c bytes more. -/
def PrPost (N B b tabs : Nat) (w : World) (l : List UInt8) (m c : Nat) (e : Ending) (w' : World) : Prop :=
  e = .returned (.tuple #[]) ∧ ∃ l' : List UInt8, PrIn N B b tabs w' l' ∧ l.length + m ≤ l'.length ∧ l'.length ≤ l.length + c ∧ Below B w w'

theorem repeat_len (x : List UInt8) (c : Nat) : (Lib.repeatL x c).length = x.length * c := by
  induction c with
  | zero => simp [Lib.repeatL]
  | succ c ih => simp [Lib.repeatL] at ih ⊢; rw [Nat.mul_succ]; omega

set_option maxRecDepth 100000 in
set_option maxHeartbeats 1600000 in
theorem line_any {N B b tabs : Nat} (s : ByteArray) (w : World) (l : List UInt8) (h : PrIn N B b tabs w l) (hlen : l.length + tabs + s.size ≤ 130000000000000) :
    Calls Tryz.prog 16 #[.pointer (some ⟨b, 0, none⟩), .string s] w (PrPost N B b tabs w l 1 (tabs + s.size + 1)) := by
  obtain ⟨c2, -, hb, hBb⟩ := h.cell
  have HP := Lib.hid h
  have hBw := h.hB
  clear h
  go_enter Tryz.func16, Tryz.ntmps16
  go_wp2_with fail
  refine wp_region_plan (fun w' => w'.cell? ⟨b, 2, none⟩ = some (.int .i64 tabs))
    [(0, true), (1, true), (2, true), (3, true), (4, true), (5, true), (6, true), (8, true), (7, false), (9, true), (10, true), (11, false)] true (by kernel_rfl) (by kernel_rfl) (fun c a d v w h => by cases d <;> exact h) c2 ?_
  iterate 8 (refine ⟨_, ?_, rfl, Or.inl ⟨by rfl, ?_⟩, ?_⟩; rotate_left; (· intro w' hSw; (try dsimp only at hSw); go_simp; (try rw [if_neg (by omega)]); (try with_reducible rfl)); simp only [Act.put, List.setIfInBounds_toArray, List.set_cons_zero, List.set_cons_succ, List.getElem_toArray, List.getElem_cons_zero, List.getElem_cons_succ])
  refine wpPlan_act rfl (by rfl) (fun K hK => ?_)
  go_simp
  refine (Tryz.strings_Repeat ⟨#[9]⟩ tabs _ (by omega) (by show 1 * tabs ≤ _; omega)).mono ?_
  rintro e w1 ⟨rfl, hbl⟩
  have hE : Ext w w1 := ((Ext.refl w).drew).trans (.of_below hbl)
  have d2 := (hE.cell b 2 hb).trans c2
  have hR : (⟨(Lib.repeatL [9] tabs).toArray⟩ : ByteArray).size = tabs := by rw [ByteArray.size_mk', List.size_toArray, repeat_len]; simp
  have hR' : (⟨(Lib.repeatL (⟨#[9]⟩ : ByteArray).data.toList tabs).toArray⟩ : ByteArray).size = tabs := by rw [ByteArray.size_mk', List.size_toArray, repeat_len]; simp
  have HP1 := Lib.hid (HP.out.ext hE)
  have HE := Lib.hid hE
  clear hbl hE
  generalize (⟨(Lib.repeatL (⟨#[9]⟩ : ByteArray).data.toList tabs).toArray⟩ : ByteArray) = T at *
  refine hK _ _ (fun _ => d2) ?_
  clear hK K
  try simp only [Act.put, List.setIfInBounds_toArray, List.set_cons_zero, List.set_cons_succ]
  iterate 2 (refine ⟨_, ?_, rfl, Or.inl ⟨by rfl, ?_⟩, ?_⟩; rotate_left; (· intro w' hSw; (try dsimp only at hSw); go_simp; (try rw [if_neg (by omega)]); (try with_reducible rfl)); simp only [Act.put, List.setIfInBounds_toArray, List.set_cons_zero, List.set_cons_succ, List.getElem_toArray, List.getElem_cons_zero, List.getElem_cons_succ])
  refine wpPlan_act rfl (by rfl) (fun K hK => ?_)
  go_simp
  refine (write_any _ _ HP1.out.bld ?_ HP1.out.hB).mono ?_
  · simp only [ByteArray.size_append', ByteArray.size_mk', List.size_toArray, List.length_cons, List.length_nil]
    omega
  rintro e w2 ⟨rfl, hB2, hF⟩
  have hres : ∃ l' : List UInt8, PrIn N B b tabs w2 l' ∧ l.length + 1 ≤ l'.length ∧ l'.length ≤ l.length + (tabs + s.size + 1) ∧ Below B w w2 := by
    refine ⟨_, ⟨hB2, by have := hF.below.size; have := HP1.out.hB; omega, HP1.out.gl.below HP1.out.hN hF.below, HP1.out.tb.below HP1.out.hN hF.below, HP1.out.hN⟩, ?_, ?_, (HE.out.belowB hBw).trans hF.below⟩
    · simp only [List.length_append, ← Lib.size_eq, ByteArray.size_append', ByteArray.size_mk', List.size_toArray, List.length_cons, List.length_nil]
      omega
    · simp only [List.length_append, ← Lib.size_eq, ByteArray.size_append', ByteArray.size_mk', List.size_toArray, List.length_cons, List.length_nil]
      omega
  have HRES := Lib.hid hres
  clear hB2 hF hres
  refine hK _ _ (fun h => absurd rfl h) ?_
  refine ⟨rfl, ?_⟩
  go_wp2_with fail
  go_end0
  exact ⟨rfl, HRES.out⟩

/-- What is claimed of a statement, a list, a block. -/
def StP (N : Nat) (f : FuncId) (m : Ast → Nat) (a : Ast) : Prop := ∀ (w : World) (B b tabs lo hi : Nat) (l : List UInt8) (v : Value), PrIn N B b tabs w l → AstAt w lo hi a v → hi ≤ B → a.okS → a.chn → tabs + a.sz ≤ 300000 → l.length + 2000000 * a.sz ≤ 100000000000000 →
  Calls Tryz.prog f #[.pointer (some ⟨b, 0, none⟩), v] w (PrPost N B b tabs w l (m a) (2000000 * a.sz))

theorem items_sum (h t : Ast) : (Ast.cons h t).sz = 1 + h.sz + t.sz := rfl
/-- The size of the first k. -/
def szK (its : List Ast) (k : Nat) : Nat := ((its.take k).map Ast.sz).sum
theorem szK_succ (its : List Ast) (k : Nat) (h : k < its.length) : szK its (k + 1) = szK its k + (its[k]).sz := by
  unfold szK
  rw [List.take_succ_eq_append_getElem h]; simp only [List.map_append, List.map_cons, List.map_nil, List.sum_append, List.sum_cons, List.sum_nil]; omega
theorem szK_le : ∀ {a : Ast} (k : Nat), szK a.items k ≤ a.sz := by
  intro a
  induction a with
  | cons h t ih1 ih2 =>
    intro k
    cases k with
    | zero => simp [szK]
    | succ k => have := ih2 k; simp only [szK, Ast.items, List.take_succ_cons, List.map_cons, List.sum_cons, Ast.sz] at *; omega
  | _ => intro k; simp [szK, Ast.items]
theorem szK_at {a : Ast} (k : Nat) (h : k < a.items.length) : szK a.items k + (a.items[k]).sz ≤ a.sz := by
  rw [← szK_succ _ _ h]; exact szK_le _

/-- The loop over a list. -/
def LsRel (N B b tabs : Nat) (w : World) (l : List UInt8) (its : List Ast) (k : Nat) (wr : World) : Prop := ∃ l' : List UInt8, PrIn N B b tabs wr l' ∧ l.length + k ≤ l'.length ∧ l'.length ≤ l.length + 2000000 * szK its k ∧ Below B w wr

set_option maxRecDepth 100000 in
set_option maxHeartbeats 1600000 in
theorem prlist_any {N : Nat} (L : Ast) (hs : ∀ x ∈ L.items, x.isStm → StP N 38 (fun _ => 1) x) (hl : L.isL) : StP N 18 (fun a => a.items.length) L := by
  intro w B b tabs lo hi l v hp ha hhi hok hch htabs hlen
  show Calls Tryz.prog 18 #[.pointer (some ⟨b, 0, none⟩), v] w (PrPost N B b tabs w l L.items.length (2000000 * L.sz))
  have hit := okS_items hok hl
  have hci := items_chn hl hch
  have hiz := @items_sz L
  have hat := @szK_at L
  have hkl := @szK_le L
  have hln := items_len hl
  obtain ⟨a, c, rfl, hel⟩ := list_at ha hl
  have HEL : Hid (∀ (i : Nat) (x : Ast), L.items[i]? = some x → ∃ b off u, a = some ⟨b, off, none⟩ ∧ lo ≤ b ∧ b < hi ∧ w.cell? ⟨b, off + i, none⟩ = some u ∧ AstAt w lo hi x u) := Lib.hid hel
  have HIT := Lib.hid (show ∀ x ∈ L.items, StP N 38 (fun _ => 1) x ∧ x.okS ∧ x.chn ∧ tabs + x.sz ≤ 300000 from fun x hx => ⟨hs x hx (hit x hx).2, (hit x hx).1, hci x hx, by have := hiz x hx; omega⟩)
  have HAT := Lib.hid hat
  have HKL := Lib.hid (hkl L.items.length)
  have hsz : L.sz ≤ 300000 := by omega
  generalize hz : L.sz = Z at *
  clear hs hok hl hch ha hel hit hci hiz hat hkl hz
  generalize L.items = items at *
  have HREL : Hid (LsRel N B b tabs w l items 0 w) := ⟨l, hp, by omega, by simp [szK], Below.refl _ _⟩
  clear hp
  go_enter Tryz.func18, Tryz.ntmps18
  go_wp2_with fail
  go_loopw [8] (fun i wr => ∃ k : Nat, k ≤ items.length ∧ i = .int .i64 k ∧ Hid (LsRel N B b tabs w l items k wr)) (fun i _ => items.length - (intOf i).toNat)
  case atStart => exact ⟨0, by omega, rfl, HREL⟩
  case round =>
    obtain ⟨k, hk, rfl, HR⟩ := hrel
    clear HREL
    by_cases hlt : k < items.length
    · obtain ⟨b', off, u, rfl, hb1, hb2, hcell, hau⟩ := HEL.out k items[k] (List.getElem?_eq_getElem hlt)
      obtain ⟨hS, hok, hchn, hz⟩ := HIT.out items[k] (List.getElem_mem hlt)
      obtain ⟨l1, hp1, hl1, hl2, hbl⟩ := HR.out
      have hsum := HAT.out k hlt
      have hss := szK_succ items k hlt
      have hcall := hS wr B b tabs lo hi l1 u hp1 (ast_below hbl hhi hau) hhi hok hchn hz (by omega)
      have hcell2 : wr.cell? ⟨b', off + k, none⟩ = some u := (hbl.cell (p := ⟨b', off + k, none⟩) (by show b' < B; omega)).trans hcell
      have HK := Lib.hid hcall
      have HBL := Lib.hid hbl
      clear hcall hcell hau hS hok hchn hz HR hp1 hbl
      generalize items[k] = x at *
      go_wp2_with fail
      refine HK.out.mono ?_
      rintro e w2 ⟨rfl, l2, hp2, hl3, hl4, hbl2⟩
      have HL : Hid (LsRel N B b tabs w l items (k + 1) w2) := ⟨l2, hp2, by omega, by omega, HBL.out.trans hbl2⟩
      clear hp2 hbl2
      go_wp2_with fail
      all_goals exact ⟨⟨k + 1, by omega, by go_num, HL⟩, by simp [intOf]; omega⟩
    · have hkk : k = items.length := by omega
      subst hkk
      obtain ⟨l1, hp1, hl1, hl2, hbl⟩ := HR.out
      have HRES : Hid (∃ l' : List UInt8, PrIn N B b tabs wr l' ∧ l.length + items.length ≤ l'.length ∧ l'.length ≤ l.length + 2000000 * Z ∧ Below B w wr) := ⟨l1, hp1, hl1, by have := HKL.out; omega, hbl⟩
      clear hp1 hbl
      go_wp2_with fail
      go_end0
      exact ⟨rfl, HRES.out⟩

set_option maxRecDepth 100000 in
set_option maxHeartbeats 1600000 in
theorem prinner_any {N : Nat} (ln : Nat) (L : Ast) (hs : StP N 18 (fun a => a.items.length) L) : StP N 71 (fun _ => 0) (.blk ln L) := by
  intro w B b tabs lo hi l v hp ha hhi hok hch htabs hlen
  obtain ⟨b', vl, rfl, hb1, hb2, hc, hl⟩ := ha
  obtain ⟨c2, f2, hbs, hBb⟩ := hp.cell
  have hne : b' ≠ b := by omega
  have hlt : b' < w.heap.size := by have := hp.hB; omega
  have c1 := cell_of_heap (o := 1) hc
  simp only [List.getElem?_toArray, List.getElem?_cons_zero, List.getElem?_cons_succ] at c1
  obtain ⟨hp1, hbl1⟩ := hp.set (tabs + 1)
  simp only [Ast.sz] at htabs hlen
  have hcall := hs _ B b (tabs + 1) lo hi l vl hp1 (ast_below hbl1 hhi hl) hhi hok.1 hch (by omega) (by omega)
  have HK := Lib.hid hcall
  have HBL := Lib.hid hbl1
  have hw1 : IntKind.i64.wrap ((tabs : Int) + 1) = ((tabs + 1 : Nat) : Int) := by rw [show ((tabs : Int) + 1) = ((tabs + 1 : Nat) : Int) by omega]; exact IntWalk.i64_in _ (by omega)
  have hc1 : ∀ v, (w.setCell ⟨b, 2, none⟩ v).cell? ⟨b', 1, none⟩ = some vl := fun v => by rw [World.cell?_setCell_other _ _ _ _ (by simp)]; exact c1
  clear hcall hp hp1 hbl1 hc hl hok hch hs
  go_enter Tryz.func71, Tryz.ntmps71
  go_wp2_with fail
  refine HK.out.mono ?_
  rintro e w1 ⟨rfl, l1, hp1, hl1, hl2, hbl2⟩
  obtain ⟨d2, g2, hbs', -⟩ := hp1.cell
  obtain ⟨hp2, hbl3⟩ := hp1.set tabs
  have hw2 : IntKind.i64.wrap (((tabs + 1 : Nat) : Int) - 1) = (tabs : Int) := by rw [show (((tabs + 1 : Nat) : Int) - 1) = (tabs : Int) by omega]; exact IntWalk.i64_in _ (by omega)
  have HRES : Hid (∃ l' : List UInt8, PrIn N B b tabs (w1.setCell ⟨b, 2, none⟩ (.int .i64 (tabs : Int))) l' ∧ l.length + 0 ≤ l'.length ∧ l'.length ≤ l.length + 2000000 * (1 + L.sz) ∧ Below B w (w1.setCell ⟨b, 2, none⟩ (.int .i64 (tabs : Int)))) := ⟨l1, hp2, by omega, by omega, (HBL.out.trans hbl2).trans hbl3⟩
  clear hp1 hp2 hbl2 hbl3 hw1 c2 f2 hc1
  generalize ((tabs + 1 : Nat) : Int) = tt at *
  go_wp2_with fail
  go_end0
  exact ⟨rfl, HRES.out⟩
end Go.Proofs.YtgjgaeloehfhiaaGreatDoor
end
section
/- Choices and statements are printed. -/
namespace Go.Proofs.YtgjgaeloehfhiaaGreatDoor
open Go.RowKit


/-- A statement's cells. -/
structure StC8 (w : World) (sb k : Nat) (t : Tok) (ve vf vb vr : Value) (link : Bool) : Prop where
  c0 : w.cell? ⟨sb, 0, none⟩ = some (.int .i64 k)
  c2 : w.cell? ⟨sb, 2, none⟩ = some (.string t.text)
  c5 : w.cell? ⟨sb, 5, none⟩ = some ve
  c6 : w.cell? ⟨sb, 6, none⟩ = some vf
  c7 : w.cell? ⟨sb, 7, none⟩ = some vb
  c8 : w.cell? ⟨sb, 8, none⟩ = some vr
  c9 : w.cell? ⟨sb, 9, none⟩ = some (.bool link)
theorem StC8.of {w : World} {sb k : Nat} {t : Tok} {ve vf vb vr : Value} {link : Bool} (h : w.heap[sb]? = some (.cells #[.int .i64 k, .int .i64 t.kind, .string t.text, .int .i64 t.line, .int .u32 t.num, ve, vf, vb, vr, .bool link] 150 (0, 0))) : StC8 w sb k t ve vf vb vr link :=
  ⟨cell_of_heap (o := 0) h, cell_of_heap (o := 2) h, cell_of_heap (o := 5) h, cell_of_heap (o := 6) h, cell_of_heap (o := 7) h, cell_of_heap (o := 8) h, cell_of_heap (o := 9) h⟩
theorem StC8.below {w w' : World} {sb k B : Nat} {t : Tok} {ve vf vb vr : Value} {link : Bool} (h : StC8 w sb k t ve vf vb vr link) (hb : Below B w w') (hs : sb < B) : StC8 w' sb k t ve vf vb vr link :=
  ⟨(hb.cell (p := ⟨sb, 0, none⟩) hs).trans h.c0, (hb.cell (p := ⟨sb, 2, none⟩) hs).trans h.c2, (hb.cell (p := ⟨sb, 5, none⟩) hs).trans h.c5, (hb.cell (p := ⟨sb, 6, none⟩) hs).trans h.c6, (hb.cell (p := ⟨sb, 7, none⟩) hs).trans h.c7, (hb.cell (p := ⟨sb, 8, none⟩) hs).trans h.c8, (hb.cell (p := ⟨sb, 9, none⟩) hs).trans h.c9⟩

/-- An expression's text, from a printer's world. -/
theorem plain_pr {N B b tabs : Nat} {w w' : World} {l : List UInt8} {lo hi : Nat} {e : Ast} {ve : Value} (h : PrIn N B b tabs w' l) (hb : Below B w w') (ha : AstAt w lo hi e ve) (hhi : hi ≤ B) (hok : e.okE) (hsz : e.sz ≤ 300000) :
    Calls Tryz.prog 69 #[ve] w' fun r w'' => ∃ s : ByteArray, r = .returned (.string s) ∧ s.size ≤ 100010 * e.sz ∧ PrIn N B b tabs w'' l ∧ Below B w w'' := by
  refine (plain_any e.sz e (Nat.le_refl _) hsz w' lo hi ve (ast_below hb hhi ha) (by have := h.hB; omega) h.gl h.tb hok).mono ?_
  rintro r w'' ⟨s, rfl, hs, hE⟩
  exact ⟨s, rfl, hs, h.ext hE, hb.trans (hE.belowB h.hB)⟩
theorem drew_pr {N B b tabs : Nat} {w w0 : World} {l : List UInt8} (h : PrIn N B b tabs w l) (hb : Below B w0 w) : PrIn N B b tabs w.drew l ∧ Below B w0 w.drew := ⟨h.ext ((Ext.refl w).drew), hb.drew⟩
/-- A list's or block's text, from a printer's world. -/
theorem StP.at {N B b tabs : Nat} {f : FuncId} {m : Ast → Nat} {a : Ast} (h : StP N f m a) {w w' : World} {l : List UInt8} {lo hi : Nat} {v : Value} (hp : PrIn N B b tabs w' l) (hb : Below B w w') (ha : AstAt w lo hi a v) (hhi : hi ≤ B) (hok : a.okS) (hch : a.chn) (ht : tabs + a.sz ≤ 300000) (hl : l.length + 2000000 * a.sz ≤ 100000000000000) :
    Calls Tryz.prog f #[.pointer (some ⟨b, 0, none⟩), v] w' (PrPost N B b tabs w' l (m a) (2000000 * a.sz)) := h w' B b tabs lo hi l v hp (ast_below hb hhi ha) hhi hok hch ht hl

set_option maxRecDepth 100000 in
set_option maxHeartbeats 3200000 in
theorem prchoice_any {N : Nat} (a : Ast) (hch : a.isCh) (hs : ∀ x : Ast, x.isBlk → x.sz < a.sz → StP N 71 (fun _ => 0) x) : StP N 70 (fun _ => 1) a := by
  intro w B b tabs lo hi l0 v hp ha hhi hok hcn htabs hlen
  show Calls Tryz.prog 70 #[.pointer (some ⟨b, 0, none⟩), v] w (PrPost N B b tabs w l0 1 (2000000 * a.sz))
  have HP0 := Lib.hid hp
  have HW0 := Lib.hid (Below.refl B w)
  have HA := Lib.hid ha
  have HOK := Lib.hid hok
  have HCN := Lib.hid hcn
  have HS := Lib.hid hs
  have hbb := hp.cell.2.2.2
  clear hp hs
  obtain ⟨t, e, f, body, rest, link, rfl⟩ := hch
  obtain ⟨sb, ve, vf, vb, vr, rfl, h1, h2, hc, he, -, hbd, hr⟩ := ha
  obtain ⟨hft, ⟨hk, -⟩ | ⟨hk, -⟩ | ⟨-, hoe, rfl, hob, hbk, hrest⟩ | ⟨hk, -⟩ | ⟨hk, -⟩ | ⟨hk, -⟩ | ⟨hk, -⟩⟩ := hok
  all_goals try omega
  have HC := Lib.hid (StC8.of hc)
  have hsb : sb < B := by omega
  obtain ⟨x0, x2, x5, x6, x7, x8, x9⟩ := HC.out
  have HE := Lib.hid he
  have HBD := Lib.hid hbd
  have HOE := Lib.hid hoe
  have HOB := Lib.hid hob
  have HBK := Lib.hid hbk
  have HCB := Lib.hid hcn.2.1
  clear hc he hbd hr hoe hob hbk hrest hcn hft
  have hsz : (Ast.stm 2 t e .nil body rest link).sz = 1 + e.sz + 0 + body.sz + rest.sz := rfl
  generalize hZ : (Ast.stm 2 t e .nil body rest link).sz = Z at *
  go_enter Tryz.func70, Tryz.ntmps70
  go_wp2_with fail
  all_goals try omega
  refine (plain_pr HP0.out HW0.out HE.out hhi HOE.out (by omega)).mono ?_
  rintro ee w1 ⟨s1, rfl, hs, hp, hb⟩
  have HP1 := Lib.hid hp
  have HW1 := Lib.hid hb
  have z1 := hs
  clear hp hb hs
  clear x0 x2 x5 x6 x7 x8 x9
  obtain ⟨x0, x2, x5, x6, x7, x8, x9⟩ := HC.out.below HW1.out hsb
  go_wp2_with fail
  all_goals try omega
  refine (line_any _ _ _ HP1.out ?_).mono ?_
  · try simp only [ByteArray.size_append', ByteArray.size_mk', List.size_toArray, List.length_cons, List.length_nil]
    omega
  rintro ee w2 ⟨rfl, l2, hp, hl, hu, hb⟩
  try simp only [ByteArray.size_append', ByteArray.size_mk', List.size_toArray, List.length_cons, List.length_nil] at hu
  have HP2 := Lib.hid hp
  have HW2 := Lib.hid (HW1.out.trans hb)
  have lo2 := hl
  have up2 := hu
  clear hp hb hl hu
  clear x0 x2 x5 x6 x7 x8 x9
  obtain ⟨x0, x2, x5, x6, x7, x8, x9⟩ := HC.out.below HW2.out hsb
  go_wp2_with fail
  all_goals try omega
  refine (StP.at (HS.out body HBK.out (by omega)) HP2.out HW2.out HBD.out hhi HOB.out HCB.out (by omega) (by omega)).mono ?_
  rintro ee w3 ⟨rfl, l3, hp, hl, hu, hb⟩
  have HP3 := Lib.hid hp
  have HW3 := Lib.hid (HW2.out.trans hb)
  have lo3 := hl
  have up3 := hu
  clear hp hb hl hu
  clear x0 x2 x5 x6 x7 x8 x9
  obtain ⟨x0, x2, x5, x6, x7, x8, x9⟩ := HC.out.below HW3.out hsb
  clear x0 x2 x5 x6 x7 x8 x9
  clear HBK HOB HBD HE HOE HCB hsb HC
  go_wp2_with fail
  go_loopg [1] Z (fun n p wr => ∃ (x : Ast) (l' : List UInt8), n = x.sz ∧ Hid x.isCh ∧ Hid (AstAt w lo hi x p) ∧ Hid x.okS ∧ Hid x.chn ∧ x.sz ≤ Z ∧ Hid (PrIn N B b tabs wr l') ∧ Hid (Below B w wr) ∧ l0.length + 1 ≤ l'.length ∧ l'.length + 1000000 + 2000000 * (match x with | .stm _ _ _ _ _ r _ => r.sz | _ => 0) ≤ l0.length + 2000000 * Z)
  case atStart => exact ⟨.stm 2 t e .nil body rest link, l3, hZ.symm, Lib.hid ⟨_, _, _, _, _, _, rfl⟩, HA, HOK, HCN, by omega, HP3, HW3, by omega, by show _ + 2000000 * rest.sz ≤ _; omega⟩
  case round =>
    obtain ⟨x, l4, rfl, HXC, HXA, HXO, HXN, hxz, HP4, HW4, lo4, up4⟩ := hrel
    obtain ⟨t', e', f', body', rest', link', rfl⟩ := HXC.out
    obtain ⟨sb', ve', vf', vb', vr', rfl, h1', h2', hc', -, -, -, hr'⟩ := HXA.out
    have hsb' : sb' < B := by omega
    have HC9 := Lib.hid (StC8.of hc')
    obtain ⟨x0, x2, x5, x6, x7, x8, x9⟩ := HC9.out.below HW4.out hsb'
    obtain ⟨-, ⟨hk, -⟩ | ⟨hk, -⟩ | ⟨-, -, rfl, -, -, hrest⟩ | ⟨hk, -⟩ | ⟨hk, -⟩ | ⟨hk, -⟩ | ⟨hk, -⟩⟩ := HXO.out
    all_goals try omega
    have hxs : (Ast.stm 2 t' e' .nil body' rest' link').sz = 1 + e'.sz + 0 + body'.sz + rest'.sz := rfl
    rw [hxs] at hxz
    simp only at up4
    have HR' := Lib.hid hr'
    have hcn' := HXN.out
    clear hc' hr'
    rcases hrest with ⟨rfl, rfl⟩ | ⟨hro, hrb, hlk⟩
    · have hvr : vr' = .pointer none := HR'.out
      subst hvr
      clear hcn' HXA HXO HXN HXC HR'
      go_wp2_with fail
      all_goals try omega
      refine (line_any _ _ _ HP4.out ?_).mono ?_
      · try simp only [ByteArray.size_mk', List.size_toArray, List.length_cons, List.length_nil]
        omega
      rintro ee w5 ⟨rfl, l5, hp, hl, hu, hb⟩
      try simp only [ByteArray.size_mk', List.size_toArray, List.length_cons, List.length_nil] at hu
      have HP5 := Lib.hid hp
      have HW5 := Lib.hid (HW4.out.trans hb)
      have lo5 := hl
      have up5 := hu
      clear hp hb hl hu
      go_wp2_with fail
      go_end0
      exact ⟨rfl, l5, HP5.out, by simp only [Ast.sz] at *; omega, by simp only [Ast.sz] at *; omega, HW5.out⟩
    · cases link' with
      | false =>
        obtain ⟨ln, L, rfl⟩ : ∃ ln L, rest' = .blk ln L := by cases rest' <;> first | exact hrb.elim | exact ⟨_, _, rfl⟩
        obtain ⟨rb, rl, rfl, -⟩ := HR'.out
        have HRO := Lib.hid hro
        have HRN := Lib.hid hcn'.2.2
        have HIN := Lib.hid (HS.out (.blk ln L) trivial (by omega))
        clear hro hrb hlk hcn' HXA HXO HXN HXC
        go_wp2_with fail
        all_goals try omega
        refine (line_any _ _ _ HP4.out ?_).mono ?_
        · try simp only [ByteArray.size_mk', List.size_toArray, List.length_cons, List.length_nil]
          omega
        rintro ee w5 ⟨rfl, l5, hp, hl, hu, hb⟩
        try simp only [ByteArray.size_mk', List.size_toArray, List.length_cons, List.length_nil] at hu
        have HP5 := Lib.hid hp
        have HW5 := Lib.hid (HW4.out.trans hb)
        have lo5 := hl
        have up5 := hu
        clear hp hb hl hu
        clear x0 x2 x5 x6 x7 x8 x9
        obtain ⟨x0, x2, x5, x6, x7, x8, x9⟩ := HC9.out.below HW5.out hsb'
        go_wp2_with fail
        all_goals try omega
        refine (StP.at HIN.out HP5.out HW5.out HR'.out hhi HRO.out HRN.out (by omega) (by omega)).mono ?_
        rintro ee w6 ⟨rfl, l6, hp, hl, hu, hb⟩
        have HP6 := Lib.hid hp
        have HW6 := Lib.hid (HW5.out.trans hb)
        have lo6 := hl
        have up6 := hu
        clear hp hb hl hu
        clear x0 x2 x5 x6 x7 x8 x9
        obtain ⟨x0, x2, x5, x6, x7, x8, x9⟩ := HC9.out.below HW6.out hsb'
        go_wp2_with fail
        all_goals try omega
        refine (line_any _ _ _ HP6.out ?_).mono ?_
        · try simp only [ByteArray.size_mk', List.size_toArray, List.length_cons, List.length_nil]
          omega
        rintro ee w7 ⟨rfl, l7, hp, hl, hu, hb⟩
        try simp only [ByteArray.size_mk', List.size_toArray, List.length_cons, List.length_nil] at hu
        have HP7 := Lib.hid hp
        have HW7 := Lib.hid (HW6.out.trans hb)
        have lo7 := hl
        have up7 := hu
        clear hp hb hl hu
        clear x0 x2 x5 x6 x7 x8 x9
        obtain ⟨x0, x2, x5, x6, x7, x8, x9⟩ := HC9.out.below HW7.out hsb'
        go_wp2_with fail
        go_end0
        exact ⟨rfl, l7, HP7.out, by omega, by omega, HW7.out⟩
      | true =>
        obtain ⟨s, rfl, hsc⟩ := hcn'.1 rfl
        obtain ⟨rb, rl, rfl, g1, g2, hrc, hrl⟩ := HR'.out
        obtain ⟨lb, off, n', c', vs, rfl, g3, g4, hlc, hsa, -⟩ := hrl
        obtain ⟨t2, e2, f2, body2, rest2, link2, rfl⟩ := hsc
        have HSA := Lib.hid hsa
        obtain ⟨sb2, ve2, vf2, vb2, vr2, rfl, g5, g6, hc2, he2, -, hb2, -⟩ := hsa
        have hcr := (HW4.out.cell (p := ⟨rb, 1, none⟩) (by show rb < B; omega)).trans (cell_of_heap (o := 1) hrc)
        simp only [List.getElem?_toArray, List.getElem?_cons_zero, List.getElem?_cons_succ] at hcr
        have hcl := (HW4.out.cell (p := ⟨lb, off, none⟩) (by show lb < B; omega)).trans hlc
        have HC := Lib.hid (StC8.of hc2)
        have hsb : sb2 < B := by omega
        obtain ⟨y0, y2, y5, y6, y7, y8, y9⟩ := HC.out.below HW4.out hsb
        have hso : (Ast.stm 2 t2 e2 f2 body2 rest2 link2).okS := hro.1.1
        have hsn : (Ast.stm 2 t2 e2 f2 body2 rest2 link2).chn := hcn'.2.2.1
        have HSO := Lib.hid hso
        have HSN := Lib.hid hsn
        obtain ⟨-, ⟨hk, -⟩ | ⟨hk, -⟩ | ⟨-, hoe, rfl, hob, hbk, -⟩ | ⟨hk, -⟩ | ⟨hk, -⟩ | ⟨hk, -⟩ | ⟨hk, -⟩⟩ := hso
        all_goals try omega
        have hzz : (Ast.blk 0 (.cons (.stm 2 t2 e2 .nil body2 rest2 link2) .lnil)).sz = 1 + (1 + (1 + e2.sz + 0 + body2.sz + rest2.sz) + 0) := rfl
        rw [hzz] at hxz up4
        have HE := Lib.hid he2
        have HBD := Lib.hid hb2
        have HOE := Lib.hid hoe
        have HOB := Lib.hid hob
        have HCB := Lib.hid hsn.2.1
        have HIN := Lib.hid (HS.out body2 hbk (by omega))
        have hmz : (Ast.stm 2 t2 e2 .nil body2 rest2 link2).sz < (Ast.stm 2 t' e' .nil body' (.blk 0 (.cons (.stm 2 t2 e2 .nil body2 rest2 link2) .lnil)) true).sz := by simp only [Ast.sz]; omega
        clear hrc hlc hc2 he2 hb2 hoe hob hbk hsn hro hrb hlk hcn' HXA HXO HXN HXC HR' hxs
        go_wp2_with fail
        all_goals try omega
        refine (plain_pr HP4.out HW4.out HE.out hhi HOE.out (by omega)).mono ?_
        rintro ee w5 ⟨s5, rfl, hs, hp, hb⟩
        have HP5 := Lib.hid hp
        have HW5 := Lib.hid hb
        have z5 := hs
        clear hp hb hs x0 x2 x5 x6 x7 x8 x9 y0 y2 y5 y6 y7 y8 y9 hcr hcl
        obtain ⟨x0, x2, x5, x6, x7, x8, x9⟩ := HC.out.below HW5.out hsb
        go_wp2_with fail
        all_goals try omega
        refine (line_any _ _ _ HP5.out ?_).mono ?_
        · try simp only [ByteArray.size_append', ByteArray.size_mk', List.size_toArray, List.length_cons, List.length_nil]
          omega
        rintro ee w6 ⟨rfl, l6, hp, hl, hu, hb⟩
        try simp only [ByteArray.size_append', ByteArray.size_mk', List.size_toArray, List.length_cons, List.length_nil] at hu
        have HP6 := Lib.hid hp
        have HW6 := Lib.hid (HW5.out.trans hb)
        have lo6 := hl
        have up6 := hu
        clear hp hb hl hu
        clear x0 x2 x5 x6 x7 x8 x9
        obtain ⟨x0, x2, x5, x6, x7, x8, x9⟩ := HC.out.below HW6.out hsb
        go_wp2_with fail
        all_goals try omega
        refine (StP.at HIN.out HP6.out HW6.out HBD.out hhi HOB.out HCB.out (by omega) (by omega)).mono ?_
        rintro ee w7 ⟨rfl, l7, hp, hl, hu, hb⟩
        have HP7 := Lib.hid hp
        have HW7 := Lib.hid (HW6.out.trans hb)
        have lo7 := hl
        have up7 := hu
        clear hp hb hl hu
        clear x0 x2 x5 x6 x7 x8 x9
        obtain ⟨x0, x2, x5, x6, x7, x8, x9⟩ := HC.out.below HW7.out hsb
        clear x0 x2 x5 x6 x7 x8 x9
        have hfin : ∃ (x : Ast) (l' : List UInt8), (Ast.stm 2 t2 e2 .nil body2 rest2 link2).sz = x.sz ∧ Hid x.isCh ∧ Hid (AstAt w lo hi x (.pointer (some ⟨sb2, 0, none⟩))) ∧ Hid x.okS ∧ Hid x.chn ∧ x.sz ≤ Z ∧ Hid (PrIn N B b tabs w7 l') ∧ Hid (Below B w w7) ∧ l0.length + 1 ≤ l'.length ∧ l'.length + 1000000 + 2000000 * (match x with | .stm _ _ _ _ _ r _ => r.sz | _ => 0) ≤ l0.length + 2000000 * Z :=
          ⟨.stm 2 t2 e2 .nil body2 rest2 link2, l7, rfl, Lib.hid ⟨_, _, _, _, _, _, rfl⟩, HSA, HSO, HSN, by simp only [Ast.sz]; omega, HP7, HW7, by omega, by show _ + 2000000 * rest2.sz ≤ _; omega⟩
        have HFIN := Lib.hid hfin
        clear hfin
        go_wp2_with fail
        go_roundg (Ast.stm 2 t2 e2 .nil body2 rest2 link2).sz
        case measure => exact hmz
        case rel => exact HFIN.out
end Go.Proofs.YtgjgaeloehfhiaaGreatDoor
end
