/- The generator: all statements; generate. -/
import Derived.Test.YtgjgaeloehfhiaaGreatDoorM31
import Derived.Test.YtgjgaeloehfhiaaGreatDoorM26
import Derived.Test.YtgjgaeloehfhiaaGreatDoorM06
section
namespace Go.Proofs.YtgjgaeloehfhiaaGreatDoor
open Go.RowKit

theorem or_none_iff {α : Type} {a b : Option α} (h : a.or b = none) : a = none ∧ b = none := by
  cases a with
  | none => exact ⟨rfl, h⟩
  | some x => cases h

theorem stmG_all (base mb ub N : Nat) (L : Places) (a : Ast) : a.each (StmG base mb ub N L) := each_all (fun k t e f body rest link h1 h2 => by
  intro loops v w bs S lo hi hok _ hchk hht ha hhi henv h hw hlen hsz
  obtain ⟨sb, ve, vf, vb, vr, rfl, hlo, hb, hcell, hae, haf, hab, har⟩ := ha
  obtain ⟨hft, hsh⟩ := hok
  have hlist : ∀ {ln : Nat} {l : Ast}, (Ast.blk ln l).each (StmG base mb ub N L) → (Ast.blk ln l).okS → ListG base mb ub N L l := fun {ln l} hh hok => list_any l (fun x hx => each_items (a := l) hh x hx (okS_items (okS_blk hok).1 (okS_blk hok).2 x hx).2)
  have hE := expr_all base mb ub N L
  simp only [chkF] at hchk
  obtain ⟨hk1, hchk⟩ := or_none_iff hchk
  obtain ⟨-, hchk⟩ := or_none_iff hchk
  obtain ⟨-, hchk⟩ := or_none_iff hchk
  obtain ⟨hcb, hcr⟩ := or_none_iff hchk
  simp only [Ast.sz] at hlen hsz
  have hsb : sb < base := by omega
  rcases hsh with ⟨rfl, hoe, rfl, rfl, rfl, rfl⟩ | ⟨rfl, hoe, hof, rfl, rfl, rfl⟩ | ⟨rfl, hoe, rfl, hob, hbk, hrest⟩ | ⟨rfl, hoe, rfl, hob, hbk, rfl, rfl⟩ | ⟨rfl | rfl, hoe, rfl, rfl, rfl, rfl⟩ | ⟨rfl | rfl | rfl, rfl, rfl, rfl, rfl, rfl⟩ | ⟨rfl, rfl, rfl, hob, hbk, rfl, rfl⟩
  · obtain rfl : vf = .pointer none := haf
    obtain rfl : vb = .pointer none := hab
    obtain rfl : vr = .pointer none := har
    exact stm0 (lo := lo) (hi := hi) t sb w hft hsb hhi henv h hw e ve (hE e) hoe hae hcell (by omega) (by omega)
  · obtain rfl : vb = .pointer none := hab
    obtain rfl : vr = .pointer none := har
    exact stm1 (lo := lo) (hi := hi) t sb w hft hsb hhi henv h hw e f ve vf (hE e) hoe hae (hE f) hof haf hcell (by omega) (by omega)
  · cases body with
    | blk ln lb =>
      obtain ⟨bb, vlb, rfl, q1, q2, q3, q4⟩ := hab
      obtain rfl : vf = .pointer none := haf
      obtain ⟨o1, o2⟩ := okS_blk hob
      have cb : w.cell? ⟨bb, 1, none⟩ = some vlb := by rw [cell_of_heap q3]; rfl
      simp only [Ast.sz] at hlen hsz
      rcases hrest with ⟨rfl, rfl⟩ | ⟨hokr, hbkr, -⟩
      · obtain rfl : vr = .pointer none := har
        exact stm2a (lo := lo) (hi := hi) t sb w hft hsb hhi henv h hw loops ln bb e lb ve vlb (hE e) (hlist h1 hob) (by omega) cb hoe o1 o2 hcb hht hae q4 hcell (by omega) (by omega)
      · cases rest with
        | blk lnr lr =>
          obtain ⟨rb, vlr, rfl, r1, r2, r3, r4⟩ := har
          obtain ⟨p1, p2⟩ := okS_blk hokr
          have cr : w.cell? ⟨rb, 1, none⟩ = some vlr := by rw [cell_of_heap r3]; rfl
          simp only [Ast.sz] at hlen hsz
          exact stm2b (lo := lo) (hi := hi) t sb w hft hsb hhi henv h hw link loops ln bb e lb ve vlb (hE e) (hlist h1 hob) (by omega) cb hoe o1 o2 hcb hht hae q4 lr lnr rb vlr (hlist h2 hokr) (by omega) cr p1 p2 hcr r4 hcell (by omega) (by omega)
        | _ => exact hbkr.elim
    | _ => exact hbk.elim
  · cases body with
    | blk ln lb =>
      obtain ⟨bb, vlb, rfl, q1, q2, q3, q4⟩ := hab
      obtain rfl : vf = .pointer none := haf
      obtain rfl : vr = .pointer none := har
      obtain ⟨o1, o2⟩ := okS_blk hob
      have cb : w.cell? ⟨bb, 1, none⟩ = some vlb := by rw [cell_of_heap q3]; rfl
      simp only [Ast.sz] at hlen hsz
      exact stm3 (lo := lo) (hi := hi) t sb w hft hsb hhi henv h hw loops ln bb e lb ve vlb (hE e) (hlist h1 hob) (by omega) cb hoe o1 o2 hcb hae q4 hcell (by omega) (by omega)
    | _ => exact hbk.elim
  · obtain rfl : vf = .pointer none := haf
    obtain rfl : vb = .pointer none := hab
    obtain rfl : vr = .pointer none := har
    exact stm4 (lo := lo) (hi := hi) t sb w hft hsb hhi henv h hw e ve (hE e) hoe hae hcell (by omega) (by omega)
  · obtain rfl : vf = .pointer none := haf
    obtain rfl : vb = .pointer none := hab
    obtain rfl : vr = .pointer none := har
    exact stm5 (lo := lo) (hi := hi) t sb w hft hsb hhi henv h hw e ve (hE e) hoe hae hcell (by omega) (by omega)
  all_goals
    obtain rfl : ve = .pointer none := hae
    obtain rfl : vf = .pointer none := haf
    obtain rfl : vr = .pointer none := har
  · obtain rfl : vb = .pointer none := hab
    exact stm6 (_lo := lo) (hi := hi) t sb w hft hsb hhi henv h hw hcell (by omega)
  · obtain rfl : vb = .pointer none := hab
    have hl : 0 < loops := by
      cases loops with
      | zero => simp at hk1
      | succ n => omega
    obtain ⟨i, hi7⟩ := Option.isSome_iff_exists.1 (hht hl).2
    exact stm7 (_lo := lo) (hi := hi) t sb w hft hsb hhi henv h hw i hi7 hcell (by omega)
  · obtain rfl : vb = .pointer none := hab
    have hl : 0 < loops := by
      cases loops with
      | zero => simp at hk1
      | succ n => omega
    obtain ⟨i, hi7⟩ := Option.isSome_iff_exists.1 (hht hl).1
    exact stm8 (_lo := lo) (hi := hi) t sb w hft hsb hhi henv h hw i hi7 hcell (by omega)
  · cases body with
    | blk ln lb =>
      obtain ⟨bb, vlb, rfl, q1, q2, q3, q4⟩ := hab
      obtain ⟨o1, o2⟩ := okS_blk hob
      have cb : w.cell? ⟨bb, 1, none⟩ = some vlb := by rw [cell_of_heap q3]; rfl
      simp only [Ast.sz] at hlen hsz
      exact stm9 (lo := lo) (hi := hi) t sb w hft hsb hhi henv h hw loops ln bb lb vlb (hlist h1 hob) (by omega) cb o1 o2 hcb hht q4 hcell (by omega) (by omega)
    | _ => exact hbk.elim) a

theorem listG_all (base mb ub N : Nat) (L : Places) (l : Ast) : ListG base mb ub N L l := by
  intro loops v w bs S lo hi hok hl hchk hht ha hhi henv h hw hlen hsz
  exact list_any l (fun x hx => each_items (stmG_all base mb ub N L l) x hx (okS_items hok hl x hx).2) loops v w bs S lo hi hok hl hchk hht ha hhi henv h hw hlen hsz

/-- What the generator leaves: the code. -/
def CodePost (w : World) (c : List Ins) : Ending → World → Prop := fun e w' => ∃ v, e = .returned v ∧ Ext w w' ∧ w'.ownsRow w.heap.size 53 4 v c.length (c.flatMap Ins.cells)

def S00 : GSt := { out := [], labs := [(0, [])], trap := 0, head := none, tail := none }
theorem S00_wf : S00.wf := ⟨fun i hi => (by
  have : i = 0 := (by simp [S00] at hi; omega)
  subst this
  exact ⟨Nat.zero_le _, Nat.zero_le _, fun j hj => (by cases hj)⟩), (by simp [S00]), fun i h => (by cases h), fun i h => (by cases h)⟩
theorem mk00 (w : World) (ub : Nat) : MkAt ((w.alloc (.cells #[.int .i64 0, .slice none 0 0] 157)).alloc (.cells #[.pointer (some ⟨ub, 0, none⟩), .slice none 0 0, .pointer (some ⟨w.heap.size, 0, none⟩), .pointer none, .pointer none] 159)) w.heap.size (w.heap.size + 1) ub [w.heap.size] S00 := by
  refine ⟨.slice none 0 0, [.slice none 0 0], ?_, by omega, World.ownsRow_nil _ _ _ _, ⟨rfl, rfl, fun i hi => ?_, fun i hi => ?_, fun i j hi hj hij => ?_⟩⟩
  · rw [heapA, if_pos (by rw [szA])]; rfl
  · have : i = 0 := by simp [S00] at hi; omega
    subst this
    exact ⟨Nat.le_refl _, by show (World.alloc _ _).heap[w.heap.size]? = _; rw [heapA, if_neg (by rw [szA]; omega), heapA, if_pos rfl]; rfl⟩
  · have : i = 0 := by simp [S00] at hi; omega
    subst this
    exact World.ownsRow_nil _ _ _ _
  · have h1 : i = 0 := by simp [S00] at hi; omega
    have h2 : j = 0 := by simp [S00] at hj; omega
    omega

set_option maxRecDepth 100000 in
set_option maxHeartbeats 4000000 in
theorem generate_any {N lo hi : Nat} {L : Places} (body : Ast) (vb : Value) (ub pb : Nat) (w : World) (henv : GEnv w w.heap.size ub N L) (cu : w.cell? ⟨ub, 0, none⟩ = some (.pointer (some ⟨pb, 0, none⟩))) (hub : ub < w.heap.size) (hpb : pb < w.heap.size) (cp : w.cell? ⟨pb, 1, none⟩ = some vb)
    (hok : body.okS) (hbl : body.isL) (hchk : chkF L body 0 = none) (ha : AstAt w lo hi body vb) (hhi : hi ≤ w.heap.size) (hsz : body.sz ≤ 1000000) :
    Calls Tryz.prog 28 #[.pointer (some ⟨ub, 0, none⟩)] w (CodePost w (genF L body)) := by
  have hm := mk00 w ub
  have hE0 : Ext w ((w.alloc (.cells #[.int .i64 0, .slice none 0 0] 157)).alloc (.cells #[.pointer (some ⟨ub, 0, none⟩), .slice none 0 0, .pointer (some ⟨w.heap.size, 0, none⟩), .pointer none, .pointer none] 159)) := ((Ext.refl w).alloc _).alloc _
  have hf := GFr.of_ext hE0 (Nat.le_refl _)
  have HFX := Lib.hid hf
  have HENV := Lib.hid (henv.keep hf.below)
  have HAB := Lib.hid (ast_below hf.below hhi ha)
  have HCU := Lib.hid ((hf.below.cell (p := ⟨ub, 0, none⟩) hub).trans cu)
  have HCP := Lib.hid ((hf.below.cell (p := ⟨pb, 1, none⟩) hpb).trans cp)
  have HM0 := Lib.hid hm
  have HB0 := Lib.hid (List.prefix_refl [w.heap.size])
  have HG0 := Lib.hid (GLe.refl S00_wf)
  have HLG := Lib.hid (listG_all w.heap.size (w.heap.size + 1) ub N L body)
  have HOK := Lib.hid hok
  have HBL := Lib.hid hbl
  have HCHK := Lib.hid hchk
  have hl0 : S00.out.length = 0 := rfl
  have HL0 := Lib.hid hl0
  have hres : genF L body = ((((((((genS L body (S00.put 2 7 0 0)).put 2 1 0 0).put 26 0 0 1).land 0).put 2 1 0 (-1)).put 26 0 0 1).settle 0)).out := rfl
  have HRES := Lib.hid hres
  have HT0 : Hid (S00.trap < [w.heap.size].length) := Nat.zero_lt_one
  have HT1 : Hid ([w.heap.size].getD S00.trap 0 = w.heap.size) := rfl
  have HT2 : Hid (S00.trap < S00.labs.length) := Nat.zero_lt_one
  clear hm hf henv ha cu cp hok hbl hchk hl0 hres
  generalize genF L body = RES at *
  go_enter Tryz.func28, Tryz.ntmps28
  go_wp2_with fail
  generalize hW : ((w.alloc (.cells #[.int .i64 0, .slice none 0 0] 157)).alloc (.cells #[.pointer (some ⟨ub, 0, none⟩), .slice none 0 0, .pointer (some ⟨w.heap.size, 0, none⟩), .pointer none, .pointer none] 159)) = W0 at *
  have HF0 := Lib.hid (GFr.refl w.heap.size W0)
  have HX := Lib.hid hE0
  clear hW hE0
  refine (put_any 2 7 0 0 _ HM0.out (by have := HG0.out.hi; have := HL0.out; omega)).mono ?_
  rintro e w1 ⟨rfl, h1, h2⟩
  have HM1 := Lib.hid h1
  have HF1 := Lib.hid (HF0.out.trans h2)
  have HG1 := Lib.hid (HG0.out.trans (gle_put HG0.out.wf 2 7 0 0))
  clear h1 h2
  have ku_1 : w1.cell? ⟨ub, 0, none⟩ = _ := (HF1.out.below.cell (p := ⟨ub, 0, none⟩) hub).trans HCU.out
  have kp_1 : w1.cell? ⟨pb, 1, none⟩ = _ := (HF1.out.below.cell (p := ⟨pb, 1, none⟩) hpb).trans HCP.out
  go_wp2_with fail
  refine (HLG.out 0 vb _ [w.heap.size] _ lo hi HOK.out HBL.out HCHK.out (fun h0 => absurd h0 (Nat.lt_irrefl 0)) (ast_below HF1.out.below hhi HAB.out) hhi (HENV.out.keep HF1.out.below) HM1.out HG1.out.wf (by have := HG1.out.hi; have := HL0.out; omega) hsz).mono ?_
  rintro e w2 ⟨rfl, bs1, hpx, h1, h2⟩
  have HB1 := Lib.hid (HB0.out.trans hpx)
  clear hpx
  have HM2 := Lib.hid h1
  have HF2 := Lib.hid (HF1.out.trans h2)
  have HG2 := Lib.hid (HG1.out.trans (gle_genS L body _ HG1.out.wf))
  clear h1 h2
  clear ku_1 kp_1
  go_wp2_with fail
  refine (put_any 2 1 0 0 _ HM2.out (by have := HG2.out.hi; have := HL0.out; omega)).mono ?_
  rintro e w3 ⟨rfl, h1, h2⟩
  have HM3 := Lib.hid h1
  have HF3 := Lib.hid (HF2.out.trans h2)
  have HG3 := Lib.hid (HG2.out.trans (gle_put HG2.out.wf 2 1 0 0))
  clear h1 h2
  go_wp2_with fail
  refine (put_any 26 0 0 1 _ HM3.out (by have := HG3.out.hi; have := HL0.out; omega)).mono ?_
  rintro e w4 ⟨rfl, h1, h2⟩
  have HM4 := Lib.hid h1
  have HF4 := Lib.hid (HF3.out.trans h2)
  have HG4 := Lib.hid (HG3.out.trans (gle_put HG3.out.wf 26 0 0 1))
  clear h1 h2
  have tc4 := (HM4.out.trapCell HB1.out HG4.out.trap HT0.out HT1.out).1
  go_wp2_with fail
  refine (land_p S00.trap _ _ ((pre_getD HB1.out HT0.out).trans HT1.out) HM4.out (Nat.lt_of_lt_of_le HT2.out HG4.out.labs) (by have := HG4.out.hi; have := HL0.out; omega)).mono ?_
  rintro e w5 ⟨rfl, h1, h2⟩
  have HM5 := Lib.hid h1
  have HF5 := Lib.hid (HF4.out.trans h2)
  have HG5 := Lib.hid (HG4.out.trans (gle_land HG4.out.wf S00.trap))
  clear h1 h2
  clear tc4
  go_wp2_with fail
  refine (put_any 2 1 0 (-1) _ HM5.out (by have := HG5.out.hi; have := HL0.out; omega)).mono ?_
  rintro e w6 ⟨rfl, h1, h2⟩
  have HM6 := Lib.hid h1
  have HF6 := Lib.hid (HF5.out.trans h2)
  have HG6 := Lib.hid (HG5.out.trans (gle_put HG5.out.wf 2 1 0 (-1)))
  clear h1 h2
  go_wp2_with fail
  refine (put_any 26 0 0 1 _ HM6.out (by have := HG6.out.hi; have := HL0.out; omega)).mono ?_
  rintro e w7 ⟨rfl, h1, h2⟩
  have HM7 := Lib.hid h1
  have HF7 := Lib.hid (HF6.out.trans h2)
  have HG7 := Lib.hid (HG6.out.trans (gle_put HG6.out.wf 26 0 0 1))
  clear h1 h2
  have tc7 := (HM7.out.trapCell HB1.out HG7.out.trap HT0.out HT1.out).1
  go_wp2_with fail
  refine (settle_p S00.trap _ _ ((pre_getD HB1.out HT0.out).trans HT1.out) HM7.out (Nat.lt_of_lt_of_le HT2.out HG7.out.labs) HG7.out.wf (by have := HG7.out.hi; have := HL0.out; omega)).mono ?_
  rintro e w8 ⟨rfl, h1, h2⟩
  have HM8 := Lib.hid h1
  have HF8 := Lib.hid (HF7.out.trans h2)
  have HG8 := Lib.hid (HG7.out.trans (gle_settle HG7.out.wf S00.trap))
  clear h1 h2
  clear tc7
  obtain ⟨vo, vs, hv⟩ := HM8.out.v
  obtain ⟨oa, oc, rfl⟩ := own_form hv.row
  have hc := cell_of_heap (o := 1) hv.cell
  simp only [List.getElem?_toArray, List.getElem?_cons_zero, List.getElem?_cons_succ] at hc
  have HV := Lib.hid hv
  clear hv
  go_wp2_with fail
  go_ret
  rw [HRES.out]
  exact ⟨_, rfl, Ext.of_below (HX.out.below.trans HF8.out.below), HV.out.row⟩
end Go.Proofs.YtgjgaeloehfhiaaGreatDoor
end
section
/- A source that is taken: what it comes to, as a plain function; the walk. -/
namespace Go.Proofs.YtgjgaeloehfhiaaGreatDoor
open Go.RowKit

/-- A source that was taken. -/
structure UnitF where
  ds : List (Tok × Nat)
  body : Ast
  places : Places
  code : List Ins

def taken1F (ds : List (Tok × Nat)) (body : Ast) : Except (Nat × Nat) UnitF :=
  match namesF ds body with
  | .error p => .error p
  | .ok L =>
    match dataF ds 0 with
    | some p => .error p
    | none =>
      match dpF body 0 false with
      | some p => .error p
      | none => if 384 < (genF L body).length then .error (0, 232) else .ok ⟨ds, body, L, genF L body⟩
/-- What a source comes to: the line of the fault and its number, or the unit. -/
def takenF (s : ByteArray) : Except (Nat × Nat) UnitF :=
  if 16384 < s.size then .error (0, 232)
  else match readF (cutF s) with
    | .error ln => .error (ln, 230)
    | .ok (ds, l) => taken1F ds (ofList l)

/-- A unit in memory. -/
structure UnitAt (w : World) (lo ub : Nat) (u : UnitF) : Prop where
  ex : ∃ pb mpb n vd vb cv, w.heap[ub]? = some (.cells #[.pointer (some ⟨pb, 0, none⟩), .map (some mpb), cv] 51 (0, 0)) ∧ w.heap[pb]? = some (.cells #[vd, vb] 67 (0, 0)) ∧ DeclsAt w w.heap.size u.ds vd ∧ AstAt w lo w.heap.size u.body vb ∧
    PlacesAt w mpb n u.places ∧ w.ownsRow lo 53 4 cv u.code.length (u.code.flatMap Ins.cells) ∧ lo ≤ ub ∧ lo ≤ pb
theorem UnitAt.keep {w w' : World} {lo ub : Nat} {u : UnitF} (h : UnitAt w lo ub u) (hE : Ext w w') : UnitAt w' lo ub u := by
  obtain ⟨pb, mpb, n, vd, vb, cv, h1, h2, h3, h4, h5, h6, h7, h8⟩ := h.ex
  refine ⟨pb, mpb, n, vd, vb, cv, (hE.block _ (heap_lt h1)).trans h1, (hE.block _ (heap_lt h2)).trans h2, ?_, hE.ast (Nat.le_refl _) (Nat.le_refl _) hE.size h4, h5.keep (hE.block _ h5.size), own_keep h6 (fun g hg => hE.block g (own_block h6 hg).2) (Nat.le_refl _), h7, h8⟩
  obtain ⟨a, c, rfl, q1, q2⟩ := h3.keep hE.size (fun k _ hk => hE.block k hk)
  refine ⟨a, c, rfl, q1, fun i hi => ?_⟩
  obtain ⟨g, e, e1, e2, e3⟩ := q2 i hi
  exact ⟨g, e, e2, e2, e3⟩

theorem flat_decl : ∀ (ds : List (Tok × Nat)) (k j : Nat), k < ds.length → j < 5 → (ds.flatMap declCells)[k * 5 + j]? = (declCells (ds.getD k default))[j]?
  | [], k, j, h, _ => by simp at h
  | d :: ds, 0, j, _, hj => by
    rw [List.flatMap_cons, List.getElem?_append_left (by simp [declCells]; omega)]
    simp
  | d :: ds, k + 1, j, h, hj => by
    rw [List.flatMap_cons, List.getElem?_append_right (by simp [declCells]; omega)]
    have := flat_decl ds k j (by simpa using h) hj
    simp only [declCells, List.length_cons, List.length_nil, List.getD_cons_succ] at this ⊢
    rw [show (k + 1) * 5 + j - (0 + 1 + 1 + 1 + 1 + 1) = k * 5 + j by omega]
    exact this
theorem DeclsAt.of_row {w : World} {lo : Nat} {ds : List (Tok × Nat)} {v : Value} (h : w.ownsRow lo 71 5 v ds.length (ds.flatMap declCells)) (hl : ds.length ≤ 100000) : DeclsAt w w.heap.size ds v := by
  obtain ⟨a, c, rfl⟩ := own_form h
  refine ⟨a, c, rfl, hl, fun i hi => ?_⟩
  obtain ⟨g, cap, hg⟩ := own_slc h (by omega)
  have ha : a = some ⟨g, 0, none⟩ := by injection hg
  subst ha
  have hb := (own_block h (g := g) rfl).2
  have hc := fun j (hj : j < 5) => (World.ownsRow.cellAt h (i * 5 + j) (by omega)).trans (flat_decl ds i j hi hj)
  exact ⟨g, rfl, hb, hb, hc 0 (by omega), hc 1 (by omega), hc 2 (by omega), hc 3 (by omega), hc 4 (by omega)⟩

theorem DeclsAt.wide {w : World} {B B' : Nat} {ds : List (Tok × Nat)} {v : Value} (h : DeclsAt w B ds v) (hb : B ≤ B') : DeclsAt w B' ds v := by
  obtain ⟨a, c, rfl, q1, q2⟩ := h
  refine ⟨a, c, rfl, q1, fun i hi => ?_⟩
  obtain ⟨g, e, e1, e2, e3⟩ := q2 i hi
  exact ⟨g, e, by omega, e2, e3⟩

theorem placesF_lok : ∀ (ds : List (Tok × Nat)) (at_ : Nat) (L0 L : Places), placesF ds at_ L0 = .ok L → (∀ d ∈ ds, DeclOK d) → LOK L0 → LOK L
  | [], at_, L0, L, h, _, hl => by simp only [placesF] at h; cases h; exact hl
  | d :: ds, at_, L0, L, h, hd, hl => by
    simp only [placesF] at h
    split at h
    · cases h
    · refine placesF_lok ds _ _ L h (fun x hx => hd x (by simp [hx])) fun key p hp => ?_
      have h2 := (hd d (by simp)).2
      split at hp
      · injection hp with hp; subst hp; exact ⟨by simp only; omega, by simp only; omega⟩
      · exact hl key p hp
theorem namesF_ok {ds : List (Tok × Nat)} {body : Ast} {L : Places} (h : namesF ds body = .ok L) (hd : ∀ d ∈ ds, DeclOK d) : placesF ds 384 (fun _ => none) = .ok L ∧ chkF L body 0 = none ∧ LOK L := by
  simp only [namesF] at h
  split at h
  · cases h
  · rename_i L' q
    cases hc : chkF L' body 0 with
    | some p => rw [hc] at h; cases h
    | none =>
      rw [hc] at h
      have : L' = L := by simp only [ckRes, Except.ok.injEq] at h; exact h
      subst this
      exact ⟨q, hc, placesF_lok ds 384 _ _ q hd (fun key p hp => by cases hp)⟩

/-- What taking a source leaves. -/
def TakenPost (w : World) : Except (Nat × Nat) UnitF → Ending → World → Prop
  | .error (ln, code), e, w' => e = .returned (.tuple #[.pointer none, .int .i64 ln, .int .i64 code]) ∧ Ext w w'
  | .ok u, e, w' => ∃ ub, e = .returned (.tuple #[.pointer (some ⟨ub, 0, none⟩), .int .i64 0, .int .i64 0]) ∧ Ext w w' ∧ UnitAt w' w.heap.size ub u

set_option maxRecDepth 100000 in
set_option maxHeartbeats 6400000 in
theorem taken_any {N : Nat} (s : ByteArray) (hs : s.size ≤ maxLen) (w : World) (hG : Gl N w) (hC : Cb N w) (hN : N ≤ w.heap.size) : Calls Tryz.prog 13 #[.string s] w (TakenPost w (takenF s)) := by
  unfold maxLen at hs
  by_cases hbig : 16384 < s.size
  · have HR : Hid (takenF s = .error (0, 232)) := by show _ = _; rw [takenF, if_pos hbig]
    generalize takenF s = R at *
    clear hG hC
    go_enter Tryz.func13, Tryz.ntmps13
    go_wp2_with fail
    go_ret3
    rw [HR.out]
    exact ⟨rfl, Ext.refl w⟩
  · have hrd := read_any s (by omega) w hG
    obtain ⟨hok, herr⟩ := readF_ok s (by omega)
    have hR : takenF s = match readF (cutF s) with
      | .error ln => .error (ln, 230)
      | .ok (ds, l) => taken1F ds (ofList l) := by rw [takenF, if_neg hbig]
    have HR := Lib.hid hR
    have HRD := Lib.hid hrd
    have HOK := Lib.hid hok
    have HG := Lib.hid hG
    have HCB := Lib.hid hC
    clear hrd hok herr hR hG hC
    generalize takenF s = R at *
    generalize readF (cutF s) = RD at *
    go_enter Tryz.func13, Tryz.ntmps13
    go_wp2_with fail
    cases RD with
    | error ln =>
      have HX : Hid (R = .error (ln, 230)) := HR.out
      refine HRD.out.mono ?_
      rintro e w1 ⟨rfl, hE⟩
      have HE := Lib.hid hE
      clear hE
      go_wp2_with fail
      go_quiet (fail)
      go_wp2_with fail
      go_ret3
      rw [HX.out]
      exact ⟨rfl, (HE.out.alloc _).drewN _⟩
    | ok p =>
      obtain ⟨ds, l⟩ := p
      have HX : Hid (R = taken1F ds (ofList l)) := HR.out
      obtain ⟨h1, h2, h3, h4, h5⟩ := HOK.out ds l rfl
      refine HRD.out.mono ?_
      rintro e w1 ⟨v, rfl, hE, pb, vd, vb, rfl, hpb1, hpb, hrow, hast⟩
      have hdecl := DeclsAt.of_row hrow h1
      have HX0 := HX.out
      generalize ofList l = body at *
      have HE := Lib.hid hE
      have x1 := hE.size
      have hpbs := heap_lt hpb
      have hEW : Ext w1 (((w1.alloc (.cells #[.int .i64 0, .int .i64 0] 92)).alloc (.map #[] 0)).alloc (.cells #[.map (some (w1.heap.size + 1)), .int .i64 0, .int .i64 0] 97)) := (((Ext.refl w1).alloc _).alloc _).alloc _
      have hck : Ck (((w1.alloc (.cells #[.int .i64 0, .int .i64 0] 92)).alloc (.map #[] 0)).alloc (.cells #[.map (some (w1.heap.size + 1)), .int .i64 0, .int .i64 0] 97)) (w1.heap.size + 2) (w1.heap.size + 1) 0 (fun _ => none) := by
        have hmade := PlacesAt.made (w1.alloc (.cells #[.int .i64 0, .int .i64 0] 92))
        rw [szA] at hmade
        refine ⟨by rw [heapA, if_pos (by simp only [szA])], hmade.keep (by rw [heapA, if_neg (by simp only [szA]; omega)]), by omega⟩
      have hdW : DeclsAt (((w1.alloc (.cells #[.int .i64 0, .int .i64 0] 92)).alloc (.map #[] 0)).alloc (.cells #[.map (some (w1.heap.size + 1)), .int .i64 0, .int .i64 0] 97)) w1.heap.size ds vd := hdecl.keep hEW.size (fun k hk _ => hEW.block k hk)
      have hnames := names_any (B := w1.heap.size) (lo := w.heap.size) (hi := w1.heap.size) ds body vd vb _ h2 h3 h4 (by omega) hck (by omega) (by omega) hEW.size ((hEW.block pb hpbs).trans hpb) hpbs hdW (hEW.ast (Nat.le_refl _) (Nat.le_refl _) (Nat.le_refl _) hast) (Nat.le_refl _)
      have HNAMES := Lib.hid hnames
      have HAST := Lib.hid hast
      have HDECL := Lib.hid hdecl
      have HPB := Lib.hid hpb
      have HEW := Lib.hid hEW
      have H2 := Lib.hid h2
      have H3 := Lib.hid h3
      have H4 := Lib.hid h4
      have htk : R = (match namesF ds body with
        | .error p => .error p
        | .ok L =>
          match dataF ds 0 with
          | some p => .error p
          | none =>
            match dpF body 0 false with
            | some p => .error p
            | none => if 384 < (genF L body).length then .error (0, 232) else .ok ⟨ds, body, L, genF L body⟩) := HX0
      have HTK := Lib.hid htk
      clear hEW hck hdW hnames hast hdecl hpb hrow hE HX0 htk h2 h3 h4 HRD HOK
      have hmm := @run_makeMap Tryz.prog
      have hNF := fun L => namesF_ok (ds := ds) (body := body) (L := L)
      have HNF := Lib.hid hNF
      clear hNF
      generalize namesF ds body = NR at *
      go_wp2_with fail
      clear hmm
      refine HNAMES.out.mono ?_
      rintro e w2 hpost
      cases NR with
      | error q =>
        obtain ⟨ln, code⟩ := q
        obtain ⟨rfl, hB, hcell⟩ := hpost
        have HB := Lib.hid hB
        obtain ⟨c0, -, -⟩ := cells_of_heap hcell
        have c1 := c0 1
        have c2 := c0 2
        have c0 := c0 0
        simp only [List.getElem?_toArray, List.getElem?_cons_zero, List.getElem?_cons_succ] at c0 c1 c2
        clear hB hcell
        go_wp2_with fail
        go_quiet (fail)
        go_wp2_with fail
        go_ret3
        rw [HTK.out]
        exact ⟨rfl, (HE.out.trans (Ext.of_below ((HEW.out.belowB (Nat.le_refl _)).trans HB.out))).drewN _⟩
      | ok L =>
        obtain ⟨rfl, hB, n, hck⟩ := hpost
        have HB := Lib.hid ((HEW.out.belowB (Nat.le_refl _)).trans hB)
        have x2 := HB.out.size
        obtain ⟨hpf, hchk, hlok⟩ := HNF.out L rfl H2.out
        have hd2 : DeclsAt w2 w2.heap.size ds vd := (HDECL.out.keep HB.out.size (fun k hk _ => HB.out.block k hk)).wide HB.out.size
        have hp2 := (HB.out.block pb hpbs).trans HPB.out
        have hdata := data_any ds vd vb w2 H2.out hck hp2 hd2
        have HDATA := Lib.hid hdata
        have HCK := Lib.hid hck
        have HP2 := Lib.hid hp2
        have HCHK := Lib.hid hchk
        have HLOK := Lib.hid hlok
        have HTK2 : Hid (R = (match dataF ds 0 with
          | some p => .error p
          | none =>
            match dpF body 0 false with
            | some p => .error p
            | none => if 384 < (genF L body).length then .error (0, 232) else .ok ⟨ds, body, L, genF L body⟩)) := HTK.out
        clear hB hck hpf hchk hlok hd2 hp2 hdata HTK HNF HNAMES
        have HDL := HDECL
        clear HDECL
        generalize dataF ds 0 = DR at *
        go_wp2_with fail
        refine HDATA.out.mono ?_
        rintro e w3 hp3
        have he := hp3.isB
        subst he
        cases DR with
        | some q =>
          obtain ⟨ln, code⟩ := q
          have HX2 : Hid (R = .error (ln, code)) := HTK2.out
          obtain ⟨-, hK, hcell⟩ := hp3
          have HK := Lib.hid hK
          obtain ⟨c0, -, -⟩ := cells_of_heap hcell
          have c1 := c0 1
          have c2 := c0 2
          have c0 := c0 0
          simp only [List.getElem?_toArray, List.getElem?_cons_zero, List.getElem?_cons_succ] at c0 c1 c2
          clear hK hcell
          go_wp2_with fail
          go_quiet (fail)
          go_wp2_with fail
          go_ret3
          rw [HX2.out]
          exact ⟨rfl, (HE.out.trans (Ext.of_below (HB.out.trans (HK.out.belowB (by omega) x2)))).drewN _⟩
        | none =>
          have HTK3 : Hid (R = (match dpF body 0 false with
            | some p => .error p
            | none => if 384 < (genF L body).length then .error (0, 232) else .ok ⟨ds, body, L, genF L body⟩)) := HTK2.out
          have HE3 := Lib.hid hp3.ext
          have x3 := hp3.ext.size
          clear hp3 HTK2 HDATA
          have hp3 := (HE3.out.block pb (by omega)).trans HP2.out
          have b1 := cell_of_heap (o := 1) hp3
          simp only [List.getElem?_toArray, List.getElem?_cons_zero, List.getElem?_cons_succ] at b1
          have HBW3 := Lib.hid (HB.out.trans (HE3.out.belowB x2))
          have hdep := depths_all body 0 vb w3 w.heap.size w1.heap.size (HCK.out.keep HE3.out) (ast_below HBW3.out (Nat.le_refl _) HAST.out) (by omega) (by omega) H3.out H4.out (by omega)
          have HDEP := Lib.hid hdep
          clear hp3 hdep
          generalize dpF body 0 false = PR at *
          go_wp2_with fail
          refine HDEP.out.mono ?_
          rintro e w4 hp4
          have he := hp4.isB
          subst he
          cases PR with
          | some q =>
            obtain ⟨ln, code⟩ := q
            have HX2 : Hid (R = .error (ln, code)) := HTK3.out
            obtain ⟨-, hK, hcell⟩ := hp4
            have HK := Lib.hid hK
            obtain ⟨c0, -, -⟩ := cells_of_heap hcell
            have c1 := c0 1
            have c2 := c0 2
            have c0 := c0 0
            simp only [List.getElem?_toArray, List.getElem?_cons_zero, List.getElem?_cons_succ] at c0 c1 c2
            clear hK hcell
            go_wp2_with fail
            go_quiet (fail)
            go_wp2_with fail
            go_ret3
            rw [HX2.out]
            exact ⟨rfl, (HE.out.trans (Ext.of_below (HBW3.out.trans (HK.out.belowB (by omega) (by omega))))).drewN _⟩
          | none =>
            have HTK4 : Hid (R = (if 384 < (genF L body).length then .error (0, 232) else .ok ⟨ds, body, L, genF L body⟩)) := HTK3.out
            have HE4 := Lib.hid hp4.ext
            have x4 := hp4.ext.size
            clear hp4 HTK3 HDEP
            have HCK4 := Lib.hid ((HCK.out.keep HE3.out).keep HE4.out)
            have HBW4 := Lib.hid (HBW3.out.trans (HE4.out.belowB (by omega)))
            have c0 := cell_of_heap (o := 0) HCK4.out.cell
            simp only [List.getElem?_toArray, List.getElem?_cons_zero] at c0
            have hE5 : Ext w4 (w4.alloc (.cells #[.pointer (some ⟨pb, 0, none⟩), .map (some (w1.heap.size + 1)), .slice none 0 0] 51)) := (Ext.refl w4).alloc _
            have hub : (w4.alloc (.cells #[.pointer (some ⟨pb, 0, none⟩), .map (some (w1.heap.size + 1)), .slice none 0 0] 51)).heap[w4.heap.size]? = some (.cells #[.pointer (some ⟨pb, 0, none⟩), .map (some (w1.heap.size + 1)), .slice none 0 0] 51 (0, 0)) := by rw [heapA, if_pos rfl]
            have hB5 : Below w1.heap.size w1 (w4.alloc (.cells #[.pointer (some ⟨pb, 0, none⟩), .map (some (w1.heap.size + 1)), .slice none 0 0] 51)) := HBW4.out.trans (hE5.belowB (by omega))
            have hp5 := (hB5.block pb hpbs).trans HPB.out
            have hm5 := HCK4.out.map.keep (hE5.block _ HCK4.out.map.size)
            have henv : GEnv (w4.alloc (.cells #[.pointer (some ⟨pb, 0, none⟩), .map (some (w1.heap.size + 1)), .slice none 0 0] 51)) (w4.alloc (.cells #[.pointer (some ⟨pb, 0, none⟩), .map (some (w1.heap.size + 1)), .slice none 0 0] 51)).heap.size w4.heap.size N L :=
              ⟨⟨_, _, _, n, hub, hm5, hm5.size, by rw [szA]; omega⟩, HCB.out.below (Nat.le_refl _) ((HE.out.belowB hN).trans (hB5.mono (by omega))), by rw [szA]; omega, Nat.le_refl _, HLOK.out⟩
            have hgen := generate_any (lo := w.heap.size) (hi := w1.heap.size) body vb w4.heap.size pb _ henv (by rw [cell_of_heap hub]; rfl) (by rw [szA]; omega) (by rw [szA]; omega) (by rw [cell_of_heap hp5]; rfl) H3.out H4.out HCHK.out (ast_below hB5 (Nat.le_refl _) HAST.out) (by rw [szA]; omega) (by omega)
            have HGEN := Lib.hid hgen
            have HUB := Lib.hid hub
            have HB5 := Lib.hid hB5
            have HM5 := Lib.hid hm5
            have HP5 := Lib.hid hp5
            clear hE5 hub hB5 hp5 hm5 henv hgen
            generalize genF L body = code at *
            go_wp2_with fail
            generalize hW5 : w4.alloc (.cells #[.pointer (some ⟨pb, 0, none⟩), .map (some (w1.heap.size + 1)), .slice none 0 0] 51) = w5 at *
            have x5 : w5.heap.size = w4.heap.size + 1 := by rw [← hW5, szA]
            have HX5 := Lib.hid x5
            clear hW5 c0
            refine HGEN.out.mono ?_
            rintro e w6 ⟨cv, rfl, hE6, hrow6⟩
            obtain ⟨ca, cc, rfl⟩ := own_form hrow6
            have x6 := hE6.size
            have hub6 := (hE6.block _ (heap_lt HUB.out)).trans HUB.out
            obtain ⟨u0, u1, u2⟩ := cells_of_heap hub6
            have u0 := u0 2
            have u1 := u1 2
            simp only [List.getElem?_toArray, List.getElem?_cons_zero, List.getElem?_cons_succ] at u0
            have HUB6 := Lib.hid hub6
            have HROW6 := Lib.hid hrow6
            have HE6 := Lib.hid hE6
            clear hub6 hrow6 hE6 x5
            have hEN : Ext w ((w6.setCell ⟨w4.heap.size, 2, none⟩ (.slice ca code.length cc))) := (HE.out.trans (Ext.of_below (HB5.out.trans (HE6.out.belowB (by have := HX5.out; omega))))).setCell (by show w.heap.size ≤ w4.heap.size; omega) _
            have HEN := Lib.hid hEN
            clear hEN
            by_cases hbg : 384 < code.length
            · have HX2 : Hid (R = .error (0, 232)) := by
                have h := HTK4.out
                rw [if_pos hbg] at h
                exact h
              go_wp2_with fail
              go_ret3
              rw [HX2.out]
              exact ⟨rfl, HEN.out⟩
            · have HX2 : Hid (R = .ok ⟨ds, body, L, code⟩) := by
                have h := HTK4.out
                rw [if_neg hbg] at h
                exact h
              go_wp2_with fail
              go_ret3
              rw [HX2.out]
              have other : ∀ k, k ≠ w4.heap.size → (w6.setCell ⟨w4.heap.size, 2, none⟩ (.slice ca code.length cc)).heap[k]? = w6.heap[k]? := fun k hk => by rw [heapS, if_neg hk]
              have hB6 : Below w1.heap.size w1 w6 := HB5.out.trans (HE6.out.belowB (by have := HX5.out; omega))
              have hlow : ∀ k, k < w1.heap.size → (w6.setCell ⟨w4.heap.size, 2, none⟩ (.slice ca code.length cc)).heap[k]? = w1.heap[k]? := fun k hk => (other k (by omega)).trans (hB6.block k hk)
              have hmsz := HM5.out.size
              refine ⟨w4.heap.size, rfl, HEN.out, ⟨pb, w1.heap.size + 1, n, vd, vb, .slice ca code.length cc, ?_, (hlow pb hpbs).trans HPB.out, ?_, ?_, ?_, ?_, by omega, hpb1⟩⟩
              · rw [heapS, if_pos rfl, HUB6.out]; rfl
              · rw [szS]
                exact (HDL.out.keep (w' := w6.setCell ⟨w4.heap.size, 2, none⟩ (.slice ca code.length cc)) (by rw [szS]; have := HX5.out; omega) (fun k hk _ => hlow k hk)).wide (by have := HX5.out; omega)
              · rw [szS]
                exact (HAST.out.keep (fun k _ h2 => hlow k h2) (Nat.le_refl _) (by have := HX5.out; omega))
              · exact (HM5.out.keep (HE6.out.block _ hmsz)).keep (other _ (by have := HCK4.out.map.size; omega))
              · refine own_keep HROW6.out (fun g hg => other g ?_) (by have := HX5.out; omega)
                have := (own_block HROW6.out hg).1
                have := HX5.out
                omega
end Go.Proofs.YtgjgaeloehfhiaaGreatDoor
end
