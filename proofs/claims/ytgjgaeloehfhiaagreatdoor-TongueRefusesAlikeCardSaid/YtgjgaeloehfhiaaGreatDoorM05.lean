/- The checker: declarations' names, and then all names. -/
import Derived.Test.YtgjgaeloehfhiaaGreatDoorM04
import Derived.IntWalk
section
namespace Go.Proofs.YtgjgaeloehfhiaaGreatDoor
open Go.RowKit

/-- The places of the declared names, or the first fault. -/
def placesF : List (Tok × Nat) → Nat → Places → Except (Nat × Nat) Places
  | [], _, L => .ok L
  | d :: l, at_, L =>
    if (L d.1.text.data.toList).isSome ∨ d.1.kind = 1 then .error (d.1.line, 231)
    else placesF l (at_ + max 1 d.2) (fun key => if key = d.1.text.data.toList then some (at_, d.2) else L key)

def ckRes (L : Places) : Option (Nat × Nat) → Except (Nat × Nat) Places
  | some p => .error p
  | none => .ok L
def namesF (ds : List (Tok × Nat)) (body : Ast) : Except (Nat × Nat) Places :=
  match placesF ds 384 (fun _ => none) with
  | .error p => .error p
  | .ok L => ckRes L (chkF L body 0)

/-- What the look at names leaves; B: below it all is as it was. -/
def NamesPost (w : World) (cb mb B : Nat) : Except (Nat × Nat) Places → Ending → World → Prop
  | .error (ln, code), e, w' => e = .returned (.bool true) ∧ Below B w w' ∧ w'.heap[cb]? = some (.cells #[.map (some mb), .int .i64 ln, .int .i64 code] 97 (0, 0))
  | .ok L, e, w' => e = .returned (.bool false) ∧ Below B w w' ∧ ∃ n, Ck w' cb mb n L

theorem Kp.belowB {r B : Nat} {w w' : World} (h : Kp r w w') (hr : B ≤ r) (hB : B ≤ w.heap.size) : Below B w w' := ⟨h.os, h.tape, h.output, h.size, fun k hk => h.block k (by omega) (by omega)⟩
theorem Ext.belowB {B : Nat} {w w' : World} (h : Ext w w') (hB : B ≤ w.heap.size) : Below B w w' := ⟨h.os, h.tape, h.output, h.size, fun k hk => h.block k (by omega)⟩
theorem ast_below {B : Nat} {w w' : World} (h : Below B w w') {lo hi : Nat} (hhi : hi ≤ B) {a : Ast} {v : Value} (g : AstAt w lo hi a v) : AstAt w' lo hi a v :=
  g.keep (fun b _ h2 => h.block b (by omega)) (Nat.le_refl _) (Nat.le_refl _)

theorem NamesPost.of_ck {w w1 w2 : World} {cb mb B n : Nat} {L : Places} {r : Option (Nat × Nat)} {e : Ending} (hB : Below B w w1) (hcb : B ≤ cb) (hs : B ≤ w1.heap.size) (hc : Ck w1 cb mb n L) (h : CkPost w1 cb mb r e w2) :
    NamesPost w cb mb B (ckRes L r) e w2 := by
  cases r with
  | none => exact ⟨h.1, hB.trans (h.2.belowB hs), n, hc.keep h.2⟩
  | some p =>
    obtain ⟨ln, code⟩ := p
    exact ⟨h.1, hB.trans (h.2.1.belowB hcb hs), h.2.2⟩

set_option maxRecDepth 100000 in
set_option maxHeartbeats 3200000 in
theorem names_any {cb mb pb B lo hi : Nat} (ds : List (Tok × Nat)) (body : Ast) (vd vb : Value) (w : World) (hok : ∀ d ∈ ds, DeclOK d) (hbo : body.okS) (hbl : body.isL) (hsz : body.sz ≤ 1000000)
    (hc : Ck w cb mb 0 (fun _ => none)) (hcb : B ≤ cb) (hmb : B ≤ mb) (hBs : B ≤ w.heap.size) (hp : w.heap[pb]? = some (.cells #[vd, vb] 67 (0, 0))) (hpB : pb < B) (hd : DeclsAt w B ds vd) (ha : AstAt w lo hi body vb) (hhi : hi ≤ B) :
    Calls Tryz.prog 25 #[.pointer (some ⟨cb, 0, none⟩), .pointer (some ⟨pb, 0, none⟩)] w (NamesPost w cb mb B (namesF ds body)) := by
  obtain ⟨a, c, rfl, hlen, hel⟩ := hd
  obtain ⟨p0, -, hpb⟩ := cells_of_heap hp
  have p1 := p0 1
  have p0 := p0 0
  simp only [List.getElem?_toArray, List.getElem?_cons_zero, List.getElem?_cons_succ] at p0 p1
  have HEL := Lib.hid hel
  have HOK := Lib.hid hok
  have HAST := Lib.hid ha
  have HC0 := Lib.hid hc
  have hnf : namesF ds body = match placesF ds 384 (fun _ => none) with
    | .error p => .error p
    | .ok L => ckRes L (chkF L body 0) := rfl
  have HN := Lib.hid hnf
  clear hp hel hc hok ha hnf
  have HREL : Hid (placesF (ds.drop 0) 384 (fun _ => none) = placesF ds 384 (fun _ => none)) := rfl
  generalize placesF ds 384 (fun _ => none) = R at *
  generalize namesF ds body = RR at *
  go_enter Tryz.func25, Tryz.ntmps25
  go_wp2_with fail
  go_loopw [5, 15] (fun s i wr => ∃ (k at_ : Nat) (L : Places), k ≤ ds.length ∧ i = .int .i64 k ∧ s = .int .i64 at_ ∧ at_ ≤ 384 + k * 4294967296 ∧ Ck wr cb mb k L ∧ Below B w wr ∧ Hid (placesF (ds.drop k) at_ L = R)) (fun _ i _ => ds.length - (intOf i).toNat)
  case atStart => exact ⟨0, 384, _, by omega, rfl, rfl, by omega, HC0.out, Below.refl _ _, HREL⟩
  case round =>
    obtain ⟨k, at_, L, hk, rfl, rfl, hat, hck, hBl, HR⟩ := hrel
    clear HREL
    have hws := hBl.size
    by_cases hlt : k < ds.length
    · obtain ⟨g, rfl, hg, -, c0, c1, c2, c3, c4⟩ := HEL.out k hlt
      have hd := HOK.out (ds.getD k default) (by rw [List.getD_eq_getElem?_getD, List.getElem?_eq_getElem hlt]; exact List.getElem_mem hlt)
      have hR := HR.out
      rw [List.drop_eq_getElem_cons hlt] at hR
      have hgd : ds.getD k default = ds[k] := by rw [List.getD_eq_getElem?_getD, List.getElem?_eq_getElem hlt]; rfl
      rw [← hgd] at hR
      simp only [placesF] at hR
      have bc := fun o => hBl.cell (p := ⟨g, o, none⟩) hg
      have d0 := (bc _).trans c0
      have d1 := (bc _).trans c1
      have d2 := (bc _).trans c2
      have d3 := (bc _).trans c3
      have d4 := (bc _).trans c4
      clear c0 c1 c2 c3 c4 hgd HR bc
      generalize ds.getD k default = d at *
      obtain ⟨⟨kind, text, line, num⟩, size⟩ := d
      obtain ⟨⟨hf1, -⟩, hf2⟩ := hd
      simp only at hR d0 d1 d2 d3 d4 hf1 hf2
      have hE0 := (Ext.refl wr).alloc (.cells #[.int .i64 kind, .string text, .int .i64 line, .int .u32 num, .int .u32 size] 71)
      have tl := fun w' (hE : Ext wr w') => tell_any line 231 w' (hck.keep hE)
      have hcells : ∀ w' : World, Ext (wr.alloc (.cells #[.int .i64 kind, .string text, .int .i64 line, .int .u32 num, .int .u32 size] 71)) w' → w'.cell? ⟨cb, 0, none⟩ = some (.map (some mb)) ∧
          w'.cell? ⟨wr.heap.size, 0, none⟩ = some (.int .i64 kind) ∧ w'.cell? ⟨wr.heap.size, 1, none⟩ = some (.string text) ∧ w'.cell? ⟨wr.heap.size, 2, none⟩ = some (.int .i64 line) ∧ w'.cell? ⟨wr.heap.size, 4, none⟩ = some (.int .u32 size) ∧
          (Instr.lookup 48 (.map (some mb)) (.string text) true).run Tryz.prog w' = .ok (.tuple #[lookV (L text.data.toList), .bool (L text.data.toList).isSome]) w' := fun w' hb => by
        have h2 := (hck.keep hE0).keep hb
        have b0 : w'.heap[wr.heap.size]? = some (.cells #[.int .i64 kind, .string text, .int .i64 line, .int .u32 num, .int .u32 size] 71 (0, 0)) := by rw [hb.block _ (by rw [szA]; omega), heapA, if_pos rfl]
        refine ⟨by rw [cell_of_heap h2.cell]; rfl, by rw [cell_of_heap b0]; rfl, by rw [cell_of_heap b0]; rfl, by rw [cell_of_heap b0]; rfl, by rw [cell_of_heap b0]; rfl, ?_⟩
        have := h2.map.look true text (Nat.le_trans hf1 (by simp [maxLen]))
        simpa using this
      obtain ⟨M, hM⟩ : ∃ M, M = max 1 size := ⟨_, rfl⟩
      have hm : (if (1 : Int) < (size : Int) then (size : Int) else 1) = (M : Int) := by rw [hM]; exact imax1 size
      have hMb : M ≤ 4294967296 := by omega
      rw [← hM] at hR
      have HCK := Lib.hid hck
      have HBL := Lib.hid hBl
      have TL := Lib.hid tl
      have hcs := (cells_of_heap hck.cell).2.2
      have hms := hck.map.size
      have hne := hck.ne
      clear hM hck hBl tl hE0
      have hcells0 := hcells _ (Ext.refl _)
      generalize hP : L text.data.toList = P at *
      unfold lookV at hcells hcells0
      have HRR := Lib.hid hR
      clear hR
      go_wp2_with fail
      refine wp_region_plan (fun w' => w'.cell? ⟨cb, 0, none⟩ = some (.map (some mb)) ∧ w'.cell? ⟨wr.heap.size, 0, none⟩ = some (.int .i64 kind) ∧ w'.cell? ⟨wr.heap.size, 1, none⟩ = some (.string text) ∧ w'.cell? ⟨wr.heap.size, 2, none⟩ = some (.int .i64 line) ∧ w'.cell? ⟨wr.heap.size, 4, none⟩ = some (.int .u32 size) ∧
          (Instr.lookup 48 (.map (some mb)) (.string text) true).run Tryz.prog w' = .ok (.tuple #[.agg #[.int .i64 (P.getD (0, 0)).1, .int .u32 (P.getD (0, 0)).2], .bool P.isSome]) w')
        [(0, true), (1, true), (2, true), (3, true), (4, true), (5, true), (6, true), (7, true), (8, true), (9, true), (10, true), (11, false), (12, false), (13, true)] true (by kernel_rfl) (by kernel_rfl) (fun c a d v w h => by cases d <;> exact h) (hcells _ ((Ext.refl _).drew)) ?_
      iterate 11 (refine ⟨_, ?_, rfl, Or.inl ⟨by rfl, ?_⟩, ?_⟩; rotate_left; (· intro w' hSw; (try dsimp only at hSw); go_simp; (try with_reducible rfl)); simp only [Act.put, List.setIfInBounds_toArray])
      refine wpPlan_act rfl (by rfl) (fun K hK => ?_)
      go_simp
      refine hK _ _ (fun _ => hcells _ (((Ext.refl _).drew).alloc _)) ?_
      clear hK K
      try simp only [Act.put, List.setIfInBounds_toArray, List.set_cons_zero, List.set_cons_succ]
      refine wpPlan_act rfl (by rfl) (fun K hK => ?_)
      go_simp
      refine hK _ _ (fun _ => hcells _ (((Ext.refl _).alloc _).drew)) ?_
      clear hK K
      try simp only [Act.put, List.setIfInBounds_toArray, List.set_cons_zero, List.set_cons_succ]
      iterate 1 (refine ⟨_, ?_, rfl, Or.inl ⟨by rfl, ?_⟩, ?_⟩; rotate_left; (· intro w' hSw; (try dsimp only at hSw); go_simp; (try with_reducible rfl)); simp only [Act.put, List.setIfInBounds_toArray])
      refine ⟨rfl, ?_⟩
      have hEw := ((((Ext.refl wr).alloc (.cells #[.int .i64 kind, .string text, .int .i64 line, .int .u32 num, .int .u32 size] 71)).alloc (.cells #[.int .i64 (P.getD (0, 0)).1, .int .u32 (P.getD (0, 0)).2] 82)).drew)
      have tl := TL.out _ hEw
      have HE2 := Lib.hid hEw
      have hc2 := hcells _ (((Ext.refl _).alloc (.cells #[.int .i64 (P.getD (0, 0)).1, .int .u32 (P.getD (0, 0)).2] 82)).drew)
      have hc3 := fun w' hE => hcells w' ((((Ext.refl _).alloc (.cells #[.int .i64 (P.getD (0, 0)).1, .int .u32 (P.getD (0, 0)).2] 82)).drew).trans hE)
      have HC3 := Lib.hid hc3
      clear hcells hEw hc3 TL
      obtain ⟨q0, q1, q2, q3, q4, q5⟩ := hc2
      clear q5
      by_cases hbad : P.isSome = true ∨ kind = 1
      · have HX : Hid (R = .error (line, 231)) := by
          have h := HRR.out
          rw [if_pos hbad] at h
          exact h.symm
        have hways : (∃ p, P = some p) ∨ (P = none ∧ kind = 1) := by
          cases P with
          | some p => exact .inl ⟨p, rfl⟩
          | none => exact .inr ⟨rfl, hbad.resolve_left (by simp)⟩
        clear HRR hbad
        rcases hways with ⟨⟨p1, p2⟩, rfl⟩ | ⟨rfl, rfl⟩
        all_goals
          simp only [Option.getD_some, Option.getD_none, Option.isSome_some, Option.isSome_none] at *
          go_wp2_with fail
          refine tl.mono ?_
          rintro e w3 hp
          have he : e = .returned (.bool true) := hp.1
          subst he
          go_wp2_with fail
          go_ret
          rw [HN.out, HX.out]
          exact ⟨rfl, HBL.out.trans ((HE2.out.belowB (by omega)).trans (hp.2.1.belowB hcb (by have := HE2.out.size; omega))), hp.2.2⟩
      · have hPn : P = none := by
          cases P with
          | some p => exact absurd (.inl rfl) hbad
          | none => rfl
        have hk1 : kind ≠ 1 := fun h => hbad (.inr h)
        subst hPn
        have HX : Hid (placesF (ds.drop (k + 1)) (at_ + M) (fun key => if key = text.data.toList then some ((at_ : Int), (size : Int)) else L key) = R) := by
          have h := HRR.out
          rw [if_neg hbad] at h
          exact h
        have e1 : ((kind : Int) == 1) = false := by rw [beq_eq_false_iff_ne]; omega
        simp only [Option.getD_none, Option.isSome_none] at *
        clear HRR hbad tl
        obtain ⟨w4, hput, hpl, hgr⟩ := (HCK.out.map.keep (w' := (((wr.alloc (.cells #[.int .i64 kind, .string text, .int .i64 line, .int .u32 num, .int .u32 size] 71)).alloc (.cells #[.int .i64 0, .int .u32 0] 82)).drew).drew) (HE2.out.drew.block _ hms)).put (by simp only [maxLen]; omega) text (Nat.le_trans hf1 (by simp [maxLen])) at_ size
        have HPL := Lib.hid hpl
        have HGR := Lib.hid hgr
        clear hpl hgr
        go_wp2_with fail
        refine wp_region_plan (fun w' => w'.cell? ⟨cb, 0, none⟩ = some (.map (some mb)) ∧ w'.cell? ⟨wr.heap.size, 1, none⟩ = some (.string text) ∧ w'.cell? ⟨wr.heap.size, 4, none⟩ = some (.int .u32 size))
          [(0, true), (1, true), (2, true), (3, true), (4, true), (5, true), (6, true), (7, true), (8, true), (9, true), (10, true), (11, false)] true (by kernel_rfl) (by kernel_rfl) (fun c a d v w h => by cases d <;> exact h) ⟨q0, q2, q4⟩ ?_
        iterate 11 (refine ⟨_, ?_, rfl, Or.inl ⟨by rfl, ?_⟩, ?_⟩; rotate_left; (· intro w' hSw; (try dsimp only at hSw); go_simp; (try with_reducible rfl)); simp only [Act.put, List.setIfInBounds_toArray])
        refine wpPlan_act rfl (by rfl) (fun K hK => ?_)
        go_simp
        refine hK _ _ (fun h => absurd rfl h) ⟨rfl, ?_⟩
        clear hK K
        try simp only [Act.put, List.setIfInBounds_toArray, List.set_cons_zero, List.set_cons_succ]
        have gcell : ∀ b o, b < wr.heap.size + 2 → b ≠ mb → w4.heap[b]? = ((wr.alloc (.cells #[.int .i64 kind, .string text, .int .i64 line, .int .u32 num, .int .u32 size] 71)).alloc (.cells #[.int .i64 0, .int .u32 0] 82)).heap[b]? ∧
            w4.cell? ⟨b, o, none⟩ = (((wr.alloc (.cells #[.int .i64 kind, .string text, .int .i64 line, .int .u32 num, .int .u32 size] 71)).alloc (.cells #[.int .i64 0, .int .u32 0] 82)).drew).drew.cell? ⟨b, o, none⟩ := fun b o h1 h2 => by
          have h := HGR.out.block b (by simp only [szD, szA]; omega) (fun e => h2 (Option.some.inj e))
          exact ⟨h, cell_same h⟩
        have m4 := (gcell wr.heap.size 4 (by omega) (by omega)).2.trans q4
        have hcbh := (gcell cb 0 (by omega) (Ne.symm hne)).1
        clear gcell q0 q1 q2 q3 q4
        have hcbc : w4.heap[cb]? = some (.cells #[.map (some mb), .int .i64 0, .int .i64 0] 97 (0, 0)) := by
          rw [hcbh, heapA, if_neg (by rw [szA]; omega), heapA, if_neg (by omega)]
          exact HCK.out.cell
        have HCB := Lib.hid hcbc
        clear hcbh hcbc
        go_wp2_with fail
        all_goals exact ⟨⟨k + 1, at_ + M, _, by omega, by go_num, by go_num, by omega, ⟨HCB.out, HPL.out, hne⟩, HBL.out.trans (Below.grown ((HE2.out.drew).belowB (by omega)) HGR.out (by simp only [szD, szA]; omega) (fun q hq => by injection hq with hq; omega)), HX⟩, by simp [intOf]; omega⟩
    · have hR := HR.out
      rw [List.drop_eq_nil_of_le (by omega)] at hR
      have HX : Hid (R = .ok L) := Lib.hid hR.symm
      have hcall := stms_any (loops := 0) body vb wr (fun x hx => each_items (stm_chk_all body) x hx (okS_items hbo hbl x hx).2) hbo hbl hck (ast_below hBl hhi HAST.out) (by omega) (by omega)
      have p2 := (hBl.cell (p := ⟨pb, 1, none⟩) hpB).trans p1
      have HCK := Lib.hid hck
      have HBL := Lib.hid hBl
      have HC := Lib.hid hcall
      clear hR HR hck hBl hcall
      go_wp2_with fail
      refine HC.out.mono ?_
      rintro e w3 hp
      have he := hp.isB
      have hz := NamesPost.of_ck HBL.out hcb (by omega) HCK.out hp
      have HZ := Lib.hid hz
      clear hz
      subst he
      go_wp2_with fail
      go_ret
      rw [HN.out, HX.out]
      exact HZ.out
end Go.Proofs.YtgjgaeloehfhiaaGreatDoor
end
section
/- The checker: how deep expressions and blocks are. -/
namespace Go.Proofs.YtgjgaeloehfhiaaGreatDoor
open Go.RowKit

def depthF : Ast → Nat
  | .exp k _ _ l r => if k = 3 ∨ k = 4 ∨ k = 6 then 1 + depthF l else if k = 5 then max (depthF l) (1 + depthF r) else 1
  | _ => 0
theorem depthF_le : ∀ a : Ast, depthF a ≤ a.sz := by
  intro a
  induction a with
  | exp k t ln l r ih1 ih2 =>
    simp only [depthF, Ast.sz]
    split
    · omega
    · split <;> omega
  | _ => simp [depthF]
theorem imax2 (a b : Nat) : (if (a : Int) < (b : Int) then (b : Int) else (a : Int)) = ((max a b : Nat) : Int) := by split <;> omega

set_option maxRecDepth 100000 in
set_option maxHeartbeats 3200000 in
theorem depth_any {lo hi : Nat} : ∀ (e : Ast) (v : Value) (w : World), e.okE → AstAt w lo hi e v → hi ≤ w.heap.size → e.sz ≤ 1000000 →
    Calls Tryz.prog 102 #[v] w (fun e' w' => e' = .returned (.int .i64 (depthF e)) ∧ Ext w w') := by
  intro e
  induction e with
  | exp k t ln l r ihl ihr =>
    intro v w hok ha hhi hsz
    obtain ⟨b, vl, vr, rfl, hlo, hb, hcell, hal, har⟩ := ha
    obtain ⟨-, hsh⟩ := hok
    simp only [Ast.sz] at hsz
    have hcells : ∀ w', Ext w w' → w'.cell? ⟨b, 0, none⟩ = some (.int .i64 k) ∧ w'.cell? ⟨b, 6, none⟩ = some vl ∧ w'.cell? ⟨b, 7, none⟩ = some vr := fun w' hE => by
      have h := (hE.block _ (cells_of_heap hcell).2.2).trans hcell
      exact ⟨cell_of_heap h, cell_of_heap h, cell_of_heap h⟩
    have iHl := fun (ho : l.okE) w' (hE : Ext w w') => ihl vl w' ho (hE.ast hhi (Nat.le_refl _) (Nat.le_refl _) hal) (Nat.le_trans hhi hE.size) (by omega)
    have iHr := fun (ho : r.okE) w' (hE : Ext w w') => ihr vr w' ho (hE.ast hhi (Nat.le_refl _) (Nat.le_refl _) har) (Nat.le_trans hhi hE.size) (by omega)
    have hd : depthF (.exp k t ln l r) = if k = 3 ∨ k = 4 ∨ k = 6 then 1 + depthF l else if k = 5 then max (depthF l) (1 + depthF r) else 1 := rfl
    have HD := Lib.hid hd
    have dl := depthF_le l
    have dr := depthF_le r
    generalize depthF (.exp k t ln l r) = D at *
    obtain ⟨c0, c6, c7⟩ := hcells w (Ext.refl w)
    clear ihl ihr hal har hcell hd
    rcases hsh with ⟨hk, -, -⟩ | ⟨hk, ho, -⟩ | ⟨hk, ho, ho2⟩
    · have HX : Hid (D = 1) := by
        have h := HD.out
        rw [if_neg (by omega), if_neg (by omega)] at h
        exact h
      have e3 : ((k : Int) == 3) = false := by rw [beq_eq_false_iff_ne]; omega
      have e4 : ((k : Int) == 4) = false := by rw [beq_eq_false_iff_ne]; omega
      have e6 : ((k : Int) == 6) = false := by rw [beq_eq_false_iff_ne]; omega
      have e5 : ((k : Int) == 5) = false := by rw [beq_eq_false_iff_ne]; omega
      clear HD hk iHl iHr
      go_enter Tryz.func102, Tryz.ntmps102
      go_wp2_with fail
      go_ret
      exact ⟨by rw [HX.out]; rfl, Ext.refl w⟩
    · have HX : Hid (D = 1 + depthF l) := by
        have h := HD.out
        rw [if_pos hk] at h
        exact h
      have ways : ((k : Int) == 3) = true ∨ (((k : Int) == 3) = false ∧ ((k : Int) == 4) = true) ∨ (((k : Int) == 3) = false ∧ ((k : Int) == 4) = false ∧ ((k : Int) == 6) = true) := by
        rcases hk with rfl | rfl | rfl
        · exact .inl rfl
        · exact .inr (.inl ⟨rfl, rfl⟩)
        · exact .inr (.inr ⟨rfl, rfl, rfl⟩)
      have hcl := iHl ho w (Ext.refl w)
      generalize depthF l = dL at *
      clear HD hk iHl iHr ho
      go_enter Tryz.func102, Tryz.ntmps102
      rcases ways with h3 | ⟨h3, h4⟩ | ⟨h3, h4, h6⟩
      all_goals
        go_wp2_with fail
        refine hcl.mono ?_
        rintro e' w1 ⟨rfl, hE⟩
        go_wp2_with fail
        go_ret
        exact ⟨by rw [HX.out]; go_num, hE⟩
    · subst hk
      have HX : Hid (D = max (depthF l) (1 + depthF r)) := by
        have h := HD.out
        rw [if_neg (by omega), if_pos rfl] at h
        exact h
      have hw : IntKind.i64.wrap (1 + (depthF r : Int)) = ((1 + depthF r : Nat) : Int) := by rw [show (1 + (depthF r : Int)) = ((1 + depthF r : Nat) : Int) by omega]; exact IntWalk.i64_in _ (by omega)
      obtain ⟨M, hM⟩ : ∃ M, M = max (depthF l) (1 + depthF r) := ⟨_, rfl⟩
      rw [← hM] at HX
      have hcl := iHl ho
      have hcr := iHr ho2
      generalize hE : 1 + depthF r = E at *
      generalize depthF l = dL at *
      generalize depthF r = dR at *
      clear HD iHl iHr ho ho2 hE
      have ways : (dL < E ∧ M = E) ∨ (E ≤ dL ∧ M = dL) := by omega
      clear hM
      rcases ways with ⟨hlt, rfl⟩ | ⟨hlt, rfl⟩
      all_goals
        go_enter Tryz.func102, Tryz.ntmps102
        go_wp2_with fail
        refine wp_region_plan (fun w' => w'.cell? ⟨b, 0, none⟩ = some (.int .i64 ((5 : Nat) : Int)) ∧ w'.cell? ⟨b, 6, none⟩ = some vl ∧ w'.cell? ⟨b, 7, none⟩ = some vr)
          [(0, true), (1, true), (2, true), (3, true), (5, true), (6, true), (7, true), (8, true), (4, false), (9, false), (10, true), (11, true), (12, true)] true (by kernel_rfl) (by kernel_rfl) (fun c a d v w h => by cases d <;> exact h) (hcells w.drew (Ext.refl w).drew) ?_
        iterate 8 (refine ⟨_, ?_, rfl, Or.inl ⟨by rfl, ?_⟩, ?_⟩; rotate_left; (· intro w' hSw; (try dsimp only at hSw); go_simp; (try with_reducible rfl)); simp only [Act.put, List.setIfInBounds_toArray])
        refine wpPlan_act rfl (by rfl) (fun K hK => ?_)
        go_simp
        refine (hcl _ (Ext.refl w).drew).mono ?_
        rintro e' w1 ⟨rfl, hE⟩
        have hE1 := ((Ext.refl w).drew).trans hE
        refine hK _ _ (fun _ => hcells w1 hE1) ?_
        clear hK K
        try simp only [Act.put, List.setIfInBounds_toArray, List.set_cons_zero, List.set_cons_succ]
        refine wpPlan_act rfl (by rfl) (fun K hK => ?_)
        go_simp
        refine (hcr _ hE1).mono ?_
        rintro e' w2 ⟨rfl, hE2⟩
        have hE3 := hE1.trans hE2
        refine hK _ _ (fun _ => hcells w2 hE3) ?_
        clear hK K
        try simp only [Act.put, List.setIfInBounds_toArray, List.set_cons_zero, List.set_cons_succ]
        iterate 3 (refine ⟨_, ?_, rfl, Or.inl ⟨by rfl, ?_⟩, ?_⟩; rotate_left; (· intro w' hSw; (try dsimp only at hSw); go_simp; (try with_reducible rfl)); simp only [Act.put, List.setIfInBounds_toArray, List.set_cons_zero, List.set_cons_succ, List.getElem_toArray, List.getElem_cons_zero, List.getElem_cons_succ])
        refine ⟨rfl, ?_⟩
        go_wp2_with fail
        go_ret
        exact ⟨by rw [HX.out]; rfl, hE3⟩
  | _ => intro v w hok; exact hok.elim

/-- The look at an expression of a statement. -/
def deepF (e : Ast) : Option (Nat × Nat) := if 16 < depthF e then some (e.lineOf, 232) else none

set_option maxRecDepth 100000 in
set_option maxHeartbeats 1600000 in
theorem deep_any {cb mb n lo hi : Nat} {L : Places} (e : Ast) (v : Value) (w : World) (hok : e = .nil ∨ e.okE) (hc : Ck w cb mb n L) (ha : AstAt w lo hi e v) (hhi : hi ≤ w.heap.size) (hsz : e.sz ≤ 1000000) :
    Calls Tryz.prog 56 #[.pointer (some ⟨cb, 0, none⟩), v] w (CkPost w cb mb (deepF e)) := by
  by_cases hn : e = .nil
  · subst hn
    have hv : v = .pointer none := ha
    subst hv
    have HR : Hid (deepF .nil = none) := Lib.hid rfl
    generalize deepF .nil = R at *
    clear hok hc ha
    go_enter Tryz.func56, Tryz.ntmps56
    go_wp2_with fail
    go_ret
    rw [HR.out]
    exact ⟨rfl, Ext.refl w⟩
  · have hok := hok.resolve_left hn
    have hd := depth_any e v w hok ha hhi hsz
    have hdl := depthF_le e
    have htl := fun ln w' (hE : Ext w w') => tell_any ln 232 w' (hc.keep hE)
    cases e with
    | exp k t ln l r =>
      obtain ⟨b, vl, vr, rfl, hlo, hb, hcell, hal, har⟩ := ha
      have hR : deepF (.exp k t ln l r) = if 16 < depthF (.exp k t ln l r) then some (ln, 232) else none := rfl
      have HR := Lib.hid hR
      have hcells : ∀ w', Ext w w' → w'.cell? ⟨b, 5, none⟩ = some (.int .i64 ln) := fun w' hE => by
        have h := (hE.block _ (cells_of_heap hcell).2.2).trans hcell
        exact cell_of_heap h
      generalize deepF (.exp k t ln l r) = R at *
      generalize depthF (.exp k t ln l r) = D at *
      have HT := Lib.hid htl
      clear hR htl hok hn hal har hcell hc hsz
      have hcell0 := hcells w (Ext.refl w)
      go_enter Tryz.func56, Tryz.ntmps56
      by_cases hg : 16 < D
      · have HX : Hid (R = some (ln, 232)) := by
          have h := HR.out
          rw [if_pos hg] at h
          exact h
        go_wp2_with fail
        refine hd.mono ?_
        rintro e' w1 ⟨rfl, hE⟩
        have hc1 := hcells w1 hE
        have tl := HT.out ln w1 hE
        go_wp2_with fail
        refine tl.mono ?_
        rintro e w3 hp
        have he : e = .returned (.bool true) := hp.1
        subst he
        go_wp2_with fail
        go_ret
        rw [HX.out]
        exact hp.then hE
      · have HX : Hid (R = none) := by
          have h := HR.out
          rw [if_neg hg] at h
          exact h
        go_wp2_with fail
        refine hd.mono ?_
        rintro e' w1 ⟨rfl, hE⟩
        go_wp2_with fail
        go_ret
        rw [HX.out]
        exact ⟨rfl, hE⟩
    | _ => exact hok.elim
end Go.Proofs.YtgjgaeloehfhiaaGreatDoor
end
