/- The checker's map of places. -/
import Derived.Test.YtgjgaeloehfhiaaGreatDoorM02
import Derived.Maps.Own
import Derived.Maps.Views
import Derived.Carry
section
namespace Go.Proofs.YtgjgaeloehfhiaaGreatDoor
open Go.RowKit

/-- How a place reads. -/
def placeL (l : List Value) : Option (DataW Unit × List MemPlace) :=
  match l with
  | [.int .i64 a, .int .u32 s] => some (.agg [.lit (.int .i64 a), .lit (.int .u32 s)], [])
  | _ => none
def placeR (v : Value) : Option (DataW Unit × List MemPlace) :=
  match v with
  | .agg c => placeL c.toList
  | _ => none
theorem placeR_mk (a s : Int) : placeR (.agg #[.int .i64 a, .int .u32 s]) = some (.agg [.lit (.int .i64 a), .lit (.int .u32 s)], []) := rfl
theorem placeL_inv {l : List Value} {y : DataW Unit × List MemPlace} (h : placeL l = some y) : ∃ a s : Int, l = [.int .i64 a, .int .u32 s] ∧ y = (.agg [.lit (.int .i64 a), .lit (.int .u32 s)], []) := by
  unfold placeL at h
  split at h
  · rename_i a s
    exact ⟨a, s, rfl, (Option.some.inj h).symm⟩
  · cases h
theorem placeR_inv {v : Value} {y : DataW Unit × List MemPlace} (h : placeR v = some y) : ∃ a s : Int, v = .agg #[.int .i64 a, .int .u32 s] ∧ y = (.agg [.lit (.int .i64 a), .lit (.int .u32 s)], []) := by
  cases v with
  | agg c =>
    obtain ⟨a, s, hl, hy⟩ := placeL_inv (l := c.toList) h
    refine ⟨a, s, ?_, hy⟩
    congr 1
    exact Array.toList_inj.1 hl
  | _ => cases h

/-- The places of names: where, and how many. -/
abbrev Places := List UInt8 → Option (Int × Int)

def datumOf : Option (Int × Int) → DataW Unit
  | some (a, s) => .agg [.lit (.int .i64 a), .lit (.int .u32 s)]
  | none => .nil

/-- Block b holds the places; at most n names. -/
def PlacesAt (w : World) (b n : Nat) (L : Places) : Prop :=
  ∃ D : DataW Unit, w.ownsMap Tryz.prog 9 placeR b n D ∧ Maps.IsMap D ∧ ∀ key, D.atKey (.string key) .nil = datumOf (L key)

theorem keyed9 : Maps.Keyed Tryz.prog 9 := Maps.string_keyed Tryz.underlying9

theorem PlacesAt.made (w : World) : PlacesAt (w.alloc (.map #[] 0)) w.heap.size 0 (fun _ => none) :=
  ⟨_, World.ownsMap_made w _ _ _, Maps.isMap_empty, fun _ => rfl⟩

theorem PlacesAt.size {w : World} {b n : Nat} {L : Places} (h : PlacesAt w b n L) : b < w.heap.size := let ⟨_, h1, _⟩ := h; h1.lt

theorem PlacesAt.keep {w w' : World} {b n : Nat} {L : Places} (h : PlacesAt w b n L) (hb : w'.heap[b]? = w.heap[b]?) : PlacesAt w' b n L := by
  obtain ⟨D, ⟨es, clock, h1, h2⟩, h3⟩ := h
  exact ⟨D, ⟨es, clock, hb.trans h1, h2⟩, h3⟩

/-- What a look-up gives. -/
def lookV (o : Option (Int × Int)) : Value := .agg #[.int .i64 (o.getD (0, 0)).1, .int .u32 (o.getD (0, 0)).2]

theorem zero82 (w : World) : (zeroValue 82).run Tryz.prog w = .ok (.agg #[.int .i64 0, .int .u32 0]) w := by kernel_rfl

theorem PlacesAt.look {w : World} {b n : Nat} {L : Places} (h : PlacesAt w b n L) (c : Bool) (s : ByteArray) (hs : s.size ≤ maxLen) :
    (Instr.lookup 48 (.map (some b)) (.string s) c).run Tryz.prog w = .ok (if c then .tuple #[lookV (L s.data.toList), .bool (L s.data.toList).isSome] else lookV (L s.data.toList)) w := by
  obtain ⟨D, ⟨es, clock, hb, F, _, rfl⟩, _, hD⟩ := h
  have hkey : keyOf Tryz.prog 9 (.string s) = some (.string s.data.toList) := WideMaps.keyOf_string_mk Tryz.underlying9 hs
  have hd := hD s.data.toList
  rcases Maps.fit_look c keyed9 Tryz.underlying48 (zero82 w) hb F hkey with ⟨hrun, _, hat⟩ | ⟨e0, y, _, _, hrun, hRv, hat, _⟩
  · rw [hat .nil] at hd
    have hL : L s.data.toList = none := by
      cases hl : L s.data.toList with
      | none => rfl
      | some p => rw [hl] at hd; cases hd
    rw [hrun, hL]
    rfl
  · rw [hat .nil] at hd
    obtain ⟨a, z, hv, rfl⟩ := placeR_inv hRv
    have hL : L s.data.toList = some (a, z) := by
      cases hl : L s.data.toList with
      | none => rw [hl] at hd; cases hd
      | some p =>
        rw [hl] at hd
        obtain ⟨p1, p2⟩ := p
        simp [datumOf] at hd
        rw [hd.1, hd.2]
    rw [hrun, hL, hv]
    rfl

theorem PlacesAt.put {w : World} {b n : Nat} {L : Places} (h : PlacesAt w b n L) (hn : n < maxLen) (s : ByteArray) (hs : s.size ≤ maxLen) (a z : Int) :
    ∃ w', (Instr.mapUpdate 48 (.map (some b)) (.string s) (.agg #[.int .i64 a, .int .u32 z])).run Tryz.prog w = .ok () w' ∧ PlacesAt w' b (n + 1) (fun key => if key = s.data.toList then some (a, z) else L key) ∧ w.grownBy w' (some b) := by
  obtain ⟨D, hD, hm, hat⟩ := h
  have hkey : keyOf Tryz.prog 9 (.string s) = some (.string s.data.toList) := WideMaps.keyOf_string_mk Tryz.underlying9 hs
  obtain ⟨w', h1, h2, h3⟩ := hD.update keyed9 Tryz.underlying48 hn hkey (placeR_mk a z)
  refine ⟨w', h1, ⟨_, h2, hm.put _ _, fun key => ?_⟩, h3⟩
  show _ = datumOf (if key = s.data.toList then some (a, z) else L key)
  by_cases hk : key = s.data.toList
  · subst hk
    rw [if_pos rfl, Maps.atKey_put_same hm (keyed9.key hkey)]
    rfl
  · rw [if_neg hk, Maps.atKey_put_other (fun e => hk (by injection e)), hat]
end Go.Proofs.YtgjgaeloehfhiaaGreatDoor
end
section
/- The checker: tell, used. -/
namespace Go.Proofs.YtgjgaeloehfhiaaGreatDoor
open Go.RowKit

/-- The checker at cb, without a fault as yet. -/
structure Ck (w : World) (cb mb n : Nat) (L : Places) : Prop where
  cell : w.heap[cb]? = some (.cells #[.map (some mb), .int .i64 0, .int .i64 0] 97 (0, 0))
  map : PlacesAt w mb n L
  ne : mb ≠ cb

theorem Ck.keep {w w' : World} {cb mb n : Nat} {L : Places} (h : Ck w cb mb n L) (hb : Ext w w') : Ck w' cb mb n L :=
  ⟨(hb.block _ (cells_of_heap h.cell).2.2).trans h.cell, h.map.keep (hb.block _ h.map.size), h.ne⟩

/-- What a look of the checker leaves: no fault; or a fault. -/
def CkPost (w : World) (cb mb : Nat) : Option (Nat × Nat) → Ending → World → Prop
  | none, e, w' => e = .returned (.bool false) ∧ Ext w w'
  | some (ln, code), e, w' => e = .returned (.bool true) ∧ Kp cb w w' ∧ w'.heap[cb]? = some (.cells #[.map (some mb), .int .i64 ln, .int .i64 code] 97 (0, 0))

set_option maxRecDepth 100000 in
set_option maxHeartbeats 800000 in
theorem tell_any {cb mb n : Nat} {L : Places} (ln code : Nat) (w : World) (h : Ck w cb mb n L) :
    Calls Tryz.prog 54 #[.pointer (some ⟨cb, 0, none⟩), .int .i64 ln, .int .i64 code] w (CkPost w cb mb (some (ln, code))) := by
  obtain ⟨c0, c1, c2⟩ := cells_of_heap h.cell
  have e1 := c0 1
  have e2 := c0 2
  have f1 := c1 1
  have f2 := c1 2
  simp only [List.getElem?_toArray, List.getElem?_cons_zero, List.getElem?_cons_succ] at e1 e2
  have H := Lib.hid h
  clear h c0 c1
  go_enter Tryz.func54, Tryz.ntmps54
  go_wp2
  go_ret
  refine (show _ = Ending.returned _ ∧ Kp cb _ _ ∧ _ from ⟨rfl, ?_, ?_⟩)
  · repeat' (with_reducible first | exact Kp.refl _ _ | exact .inl rfl | apply Kp.drew | apply Kp.setCell)
  · first
      | rw [heapS, if_pos rfl, heapS, if_pos rfl, H.out.cell]; rfl
      | rw [heapD, heapS, if_pos rfl, heapS, if_pos rfl, H.out.cell]; rfl

/-- A name that stands with an index or without. -/
def usedF (L : Places) (t : Tok) (indexed : Bool) : Option (Nat × Nat) :=
  match L t.text.data.toList with
  | none => some (t.line, 231)
  | some p => if indexed = decide (0 < p.2) then none else some (t.line, 231)

set_option maxRecDepth 100000 in
set_option maxHeartbeats 1600000 in
theorem used_any {cb mb n : Nat} {L : Places} (t : Tok) (ix : Bool) (ht : t.text.size ≤ maxLen) (w : World) (h : Ck w cb mb n L) :
    Calls Tryz.prog 137 #[.pointer (some ⟨cb, 0, none⟩), t.val, .bool ix] w (CkPost w cb mb (usedF L t ix)) := by
  obtain ⟨kind, text, line, num⟩ := t
  simp only at ht
  have hE := (Ext.refl w).alloc (.cells #[.int .i64 kind, .string text, .int .i64 line, .int .u32 num] 69)
  have h1 := h.keep hE
  have hcb := (cells_of_heap h.cell).2.2
  have hmb := h.map.size
  have H1 := Lib.hid h1
  have tell := fun w' (hb : Ext w w') => tell_any line 231 w' (h.keep hb)
  have hu : usedF L ⟨kind, text, line, num⟩ ix = match L text.data.toList with
    | none => some (line, 231)
    | some p => if ix = decide (0 < p.2) then none else some (line, 231) := rfl
  have HS := Lib.hid hu
  clear hu h
  generalize usedF L ⟨kind, text, line, num⟩ ix = R at *
  have hcell : ∀ w' : World, Ext (w.alloc (.cells #[.int .i64 kind, .string text, .int .i64 line, .int .u32 num] 69)) w' → w'.cell? ⟨cb, 0, none⟩ = some (.map (some mb)) ∧ w'.cell? ⟨w.heap.size, 1, none⟩ = some (.string text) ∧ w'.cell? ⟨w.heap.size, 2, none⟩ = some (.int .i64 line) ∧
      (Instr.lookup 48 (.map (some mb)) (.string text) true).run Tryz.prog w' = .ok (.tuple #[lookV (L text.data.toList), .bool (L text.data.toList).isSome]) w' := fun w' hb => by
    have h2 := h1.keep hb
    have b0 : w'.heap[w.heap.size]? = some (.cells #[.int .i64 kind, .string text, .int .i64 line, .int .u32 num] 69 (0, 0)) := by rw [hb.block _ (by rw [szA]; omega), heapA, if_pos rfl]
    refine ⟨by rw [cell_of_heap h2.cell]; rfl, by rw [cell_of_heap b0]; rfl, by rw [cell_of_heap b0]; rfl, ?_⟩
    have := h2.map.look true text ht
    simpa using this
  clear h1
  generalize L text.data.toList = P at *
  unfold lookV at hcell
  go_enter Tryz.func137, Tryz.ntmps137
  go_wp2_with fail
  have S0 := hcell _ (Ext.refl _)
  refine wp_region_plan (fun w' => w'.cell? ⟨cb, 0, none⟩ = some (.map (some mb)) ∧ w'.cell? ⟨w.heap.size, 1, none⟩ = some (.string text) ∧ w'.cell? ⟨w.heap.size, 2, none⟩ = some (.int .i64 line) ∧
      (Instr.lookup 48 (.map (some mb)) (.string text) true).run Tryz.prog w' = .ok (.tuple #[.agg #[.int .i64 (P.getD (0, 0)).1, .int .u32 (P.getD (0, 0)).2], .bool P.isSome]) w')
    [(0, true), (1, true), (2, true), (3, true), (4, true), (5, true), (6, true), (7, true), (8, true), (9, true), (10, false), (11, false), (12, true)] true (by kernel_rfl) (by kernel_rfl) (fun c a d v w h => by cases d <;> exact h) (hcell _ ((Ext.refl _).drew)) ?_
  iterate 10 (refine ⟨_, ?_, rfl, Or.inl ⟨by rfl, ?_⟩, ?_⟩; rotate_left; (· intro w' hSw; (try dsimp only at hSw); go_simp; (try with_reducible rfl)); simp only [Act.put, List.setIfInBounds_toArray])
  refine wpPlan_act rfl (by rfl) (fun K hK => ?_)
  go_simp
  refine hK _ _ (fun _ => hcell _ (((Ext.refl _).drew).alloc _)) ?_
  clear hK K
  try simp only [Act.put, List.setIfInBounds_toArray, List.set_cons_zero, List.set_cons_succ]
  refine wpPlan_act rfl (by rfl) (fun K hK => ?_)
  go_simp
  refine hK _ _ (fun _ => hcell _ (((Ext.refl _).alloc _).drew)) ?_
  clear hK K
  try simp only [Act.put, List.setIfInBounds_toArray, List.set_cons_zero, List.set_cons_succ]
  iterate 1 (refine ⟨_, ?_, rfl, Or.inl ⟨by rfl, ?_⟩, ?_⟩; rotate_left; (· intro w' hSw; (try dsimp only at hSw); go_simp; (try with_reducible rfl)); simp only [Act.put, List.setIfInBounds_toArray])
  refine ⟨rfl, ?_⟩
  have hE2 := ((hE.alloc (.cells #[.int .i64 (P.getD (0, 0)).1, .int .u32 (P.getD (0, 0)).2] 82)).drew)
  have tl := tell _ hE2
  have hbad : ∀ w', CkPost (((w.alloc (.cells #[.int .i64 kind, .string text, .int .i64 line, .int .u32 num] 69)).alloc (.cells #[.int .i64 (P.getD (0, 0)).1, .int .u32 (P.getD (0, 0)).2] 82)).drew) cb mb (some (line, 231)) (.returned (.bool true)) w' → CkPost w cb mb (some (line, 231)) (.returned (.bool true)) w' :=
    fun w' ⟨_, h1, h2⟩ => ⟨rfl, (hE2.kp cb).trans h1, h2⟩
  have HE2 := Lib.hid hE2
  clear hcell S0 tell hE2
  cases hP : P with
  | none =>
    subst hP
    have HR : Hid (R = some (line, 231)) := HS.out
    clear HS
    go_wp2_with fail
    refine tl.mono ?_
    rintro e w3 hp
    have he : e = .returned (.bool true) := hp.1
    subst he
    go_wp2_with fail
    go_ret
    rw [HR.out]
    exact hbad _ hp
  | some p =>
    subst hP
    obtain ⟨a, z⟩ := p
    simp only [Option.getD_some, Option.isSome_some] at *
    by_cases hz : ix = decide (0 < z)
    · have HR : Hid (R = none) := HS.out.trans (if_pos hz)
      clear HS
      subst hz
      by_cases h0 : 0 < z
      · go_wp2_with fail
        go_ret
        rw [HR.out]
        exact ⟨rfl, HE2.out⟩
      · go_wp2_with fail
        go_ret
        rw [HR.out]
        exact ⟨rfl, HE2.out⟩
    · have HR : Hid (R = some (line, 231)) := HS.out.trans (if_neg hz)
      clear HS
      by_cases h0 : 0 < z
      · have hix : ix = false := by cases ix <;> simp_all
        subst hix
        go_wp2_with fail
        refine tl.mono ?_
        rintro e w3 hp
        have he : e = .returned (.bool true) := hp.1
        subst he
        go_wp2_with fail
        go_ret
        rw [HR.out]
        exact hbad _ hp
      · have hix : ix = true := by cases ix <;> simp_all
        subst hix
        go_wp2_with fail
        refine tl.mono ?_
        rintro e w3 hp
        have he : e = .returned (.bool true) := hp.1
        subst he
        go_wp2_with fail
        go_ret
        rw [HR.out]
        exact hbad _ hp
end Go.Proofs.YtgjgaeloehfhiaaGreatDoor
end
section
/- The trees that a reading comes to are of the grammar's shapes. -/
namespace Go.Proofs.YtgjgaeloehfhiaaGreatDoor
open Go.RowKit

/-- A token whose text is not long and whose number is a word. -/
def Tok.fit (t : Tok) : Prop := t.text.size ≤ 100000 ∧ t.num < 4294967296

/-- A whole expression. -/
def Ast.okE : Ast → Prop
  | .exp k t _ l r => t.fit ∧ (((k = 0 ∨ k = 1 ∨ k = 2) ∧ l = .nil ∧ r = .nil) ∨ ((k = 3 ∨ k = 4 ∨ k = 6) ∧ l.okE ∧ r = .nil) ∨ (k = 5 ∧ l.okE ∧ r.okE))
  | _ => False

/-- A whole statement, block, list of statements. -/
def Ast.okS : Ast → Prop
  | .stm k t e f body rest link => t.fit ∧
      ((k = 0 ∧ e.okE ∧ f = .nil ∧ body = .nil ∧ rest = .nil ∧ link = false) ∨
       (k = 1 ∧ e.okE ∧ f.okE ∧ body = .nil ∧ rest = .nil ∧ link = false) ∨
       (k = 2 ∧ e.okE ∧ f = .nil ∧ body.okS ∧ body.isBlk ∧ ((rest = .nil ∧ link = false) ∨ (rest.okS ∧ rest.isBlk ∧ (link = true → ∃ s, rest = .blk 0 (.cons s .lnil))))) ∨
       (k = 3 ∧ e.okE ∧ f = .nil ∧ body.okS ∧ body.isBlk ∧ rest = .nil ∧ link = false) ∨
       ((k = 4 ∨ k = 5) ∧ e.okE ∧ f = .nil ∧ body = .nil ∧ rest = .nil ∧ link = false) ∨
       ((k = 6 ∨ k = 7 ∨ k = 8) ∧ e = .nil ∧ f = .nil ∧ body = .nil ∧ rest = .nil ∧ link = false) ∨
       (k = 9 ∧ e = .nil ∧ f = .nil ∧ body.okS ∧ body.isBlk ∧ rest = .nil ∧ link = false))
  | .blk _ l => l.okS ∧ (l = .lnil ∨ ∃ h t, l = .cons h t)
  | .lnil => True
  | .cons h t => h.okS ∧ h.isStm ∧ t.okS ∧ (t = .lnil ∨ ∃ h' t', t = .cons h' t')
  | _ => False

theorem okS_ofList : ∀ (l : List Ast), (∀ a ∈ l, a.okS ∧ a.isStm) → (ofList l).okS
  | [], _ => trivial
  | a :: l, h => ⟨(h a (by simp)).1, (h a (by simp)).2, okS_ofList l fun x hx => h x (by simp [hx]), by cases l with
    | nil => exact .inl rfl
    | cons b l => exact .inr ⟨_, _, rfl⟩⟩
theorem list_ofList : ∀ (l : List Ast), ofList l = .lnil ∨ ∃ h t, ofList l = .cons h t
  | [] => .inl rfl
  | _ :: _ => .inr ⟨_, _, rfl⟩

/-- What is known of a part's result. -/
def What.good : What → Ast → Prop
  | .operand, a | .expr _, a => a.okE
  | .rest _ e, a => e.okE → a.okE
  | .assign, a | .choice, a | .stmt, a => a.okS ∧ a.isStm
  | .block, a => a.okS ∧ a.isBlk
  | .stmts acc, a => (∀ x ∈ acc, x.okS ∧ x.isStm) → a.okS ∧ (a = .lnil ∨ ∃ h t, a = .cons h t)

theorem simpleOf_kind {t : Tok} {k : Nat} {b : Bool} (h : simpleOf t = some (k, b)) : (b = true ∧ (k = 4 ∨ k = 5)) ∨ (b = false ∧ (k = 6 ∨ k = 7 ∨ k = 8)) := by
  simp only [simpleOf, simpleT, simpleIn] at h
  repeat' split at h
  all_goals first
    | (simp only [Option.some.injEq, Prod.mk.injEq] at h; obtain ⟨rfl, rfl⟩ := h; simp)
    | simp at h

theorem blk_one (s : Ast) (h : s.okS ∧ s.isStm) : (Ast.blk 0 (.cons s .lnil)).okS ∧ (Ast.blk 0 (.cons s .lnil)).isBlk :=
  ⟨⟨⟨h.1, h.2, trivial, .inl rfl⟩, .inr ⟨_, _, rfl⟩⟩, trivial⟩

theorem pr_good {toks : List Tok} (ht : ∀ i, (toks.getD i default).fit) (f : Nat) : ∀ (wh : What) (at_ : Nat) (a : Ast) (b : Nat), pr toks f wh at_ = .ok (a, b) → wh.good a := by
  induction f with
  | zero => intro wh at_ a b h; simp [pr] at h
  | succ f ih =>
    intro wh at_ a b h
    have t0 := ht at_
    cases wh with
    | operand =>
      simp only [pr] at h
      have e1 := fun (x : Nat) (u : Ast) (v : Nat) (hh : pr toks f (.expr 1) x = .ok (u, v)) => ih _ _ _ _ hh
      have e2 := fun (x : Nat) (u : Ast) (v : Nat) (hh : pr toks f .operand x = .ok (u, v)) => ih _ _ _ _ hh
      simp only [What.good] at e1 e2 ⊢
      grind [Ast.okE]
    | expr t =>
      simp only [pr] at h
      have e1 := fun (x : Nat) (u : Ast) (v : Nat) (hh : pr toks f .operand x = .ok (u, v)) => ih _ _ _ _ hh
      have e2 := fun (x : Nat) (e u : Ast) (v : Nat) (hh : pr toks f (.rest t e) x = .ok (u, v)) => ih _ _ _ _ hh
      simp only [What.good] at e1 e2 ⊢
      grind
    | rest t e =>
      simp only [pr] at h
      have e1 := fun (tt x : Nat) (u : Ast) (v : Nat) (hh : pr toks f (.expr tt) x = .ok (u, v)) => ih _ _ _ _ hh
      have e2 := fun (x : Nat) (e u : Ast) (v : Nat) (hh : pr toks f (.rest t e) x = .ok (u, v)) => ih _ _ _ _ hh
      simp only [What.good] at e1 e2 ⊢
      intro he
      grind [Ast.okE]
    | assign =>
      simp only [pr] at h
      have e1 := fun (x : Nat) (u : Ast) (v : Nat) (hh : pr toks f (.expr 1) x = .ok (u, v)) => ih _ _ _ _ hh
      simp only [What.good] at e1 ⊢
      grind [Ast.okS, Ast.isStm]
    | choice =>
      simp only [pr] at h
      have e1 := fun (x : Nat) (u : Ast) (v : Nat) (hh : pr toks f (.expr 1) x = .ok (u, v)) => ih _ _ _ _ hh
      have e2 := fun (x : Nat) (u : Ast) (v : Nat) (hh : pr toks f .block x = .ok (u, v)) => ih _ _ _ _ hh
      have e3 := fun (x : Nat) (u : Ast) (v : Nat) (hh : pr toks f .choice x = .ok (u, v)) => ih _ _ _ _ hh
      have e4 := blk_one
      simp only [What.good] at e1 e2 e3 ⊢
      grind [Ast.okS, Ast.isStm, Ast.isBlk]
    | block =>
      simp only [pr] at h
      have e1 := fun (x : Nat) (u : Ast) (v : Nat) (hh : pr toks f (.stmts []) x = .ok (u, v)) => (show u.okS ∧ (u = .lnil ∨ ∃ h t, u = .cons h t) from ih _ _ _ _ hh (fun _ hx => by simp at hx))
      simp only [What.good]
      grind [Ast.okS, Ast.isBlk]
    | stmts acc =>
      simp only [pr] at h
      intro hacc
      split at h
      · simp only [Except.ok.injEq, Prod.mk.injEq] at h
        rw [← h.1]
        exact ⟨okS_ofList acc hacc, list_ofList acc⟩
      · split at h
        · simp at h
        · rename_i s x hs
          have h1 : s.okS ∧ s.isStm := ih _ _ _ _ hs
          refine (show (∀ x ∈ acc ++ [s], x.okS ∧ x.isStm) → a.okS ∧ (a = .lnil ∨ ∃ h t, a = .cons h t) from ih _ _ _ _ h) ?_
          intro y hy
          rcases List.mem_append.1 hy with hy | hy
          · exact hacc y hy
          · simp only [List.mem_singleton] at hy; exact hy ▸ h1
    | stmt =>
      simp only [pr] at h
      have e0 := fun (x : Nat) (u : Ast) (v : Nat) (hh : pr toks f .assign x = .ok (u, v)) => ih _ _ _ _ hh
      have e1 := fun (x : Nat) (u : Ast) (v : Nat) (hh : pr toks f (.expr 1) x = .ok (u, v)) => ih _ _ _ _ hh
      have e2 := fun (x : Nat) (u : Ast) (v : Nat) (hh : pr toks f .block x = .ok (u, v)) => ih _ _ _ _ hh
      have e3 := fun (x : Nat) (u : Ast) (v : Nat) (hh : pr toks f .choice x = .ok (u, v)) => ih _ _ _ _ hh
      have e4 := @simpleOf_kind (toks.getD at_ default)
      simp only [What.good] at e0 e1 e2 e3 ⊢
      grind [Ast.okS, Ast.isStm, Ast.isBlk]
end Go.Proofs.YtgjgaeloehfhiaaGreatDoor
end
section
/- The checker: the names of an expression. -/
namespace Go.Proofs.YtgjgaeloehfhiaaGreatDoor
open Go.RowKit

/-- The first fault among the names of an expression. -/
def namedF (L : Places) : Ast → Option (Nat × Nat)
  | .exp k t _ l r =>
    (if k = 2 ∨ k = 3 then usedF L t (k == 3) else none).or ((namedF L l).or (namedF L r))
  | _ => none

/-- One fault and no more; or on with the next. -/
theorem CkPost.then {w w1 w2 : World} {cb mb : Nat} {r : Option (Nat × Nat)} {e : Ending} (hE : Ext w w1) (h : CkPost w1 cb mb r e w2) : CkPost w cb mb r e w2 := by
  cases r with
  | none => exact ⟨h.1, hE.trans h.2⟩
  | some p => exact ⟨h.1, (hE.kp cb).trans h.2.1, h.2.2⟩
theorem CkPost.isB {w w1 : World} {cb mb : Nat} {r : Option (Nat × Nat)} {e : Ending} (h : CkPost w cb mb r e w1) : e = .returned (.bool r.isSome) := by
  cases r with
  | none => exact h.1
  | some p => exact h.1
theorem CkPost.ext {w w1 : World} {cb mb : Nat} {e : Ending} (h : CkPost w cb mb none e w1) : Ext w w1 := h.2

set_option maxRecDepth 100000 in
set_option maxHeartbeats 12000000 in
theorem named_any {cb mb n lo hi : Nat} {L : Places} : ∀ (e : Ast) (v : Value) (w : World), (e = .nil ∨ e.okE) → Ck w cb mb n L → AstAt w lo hi e v → hi ≤ w.heap.size →
    Calls Tryz.prog 138 #[.pointer (some ⟨cb, 0, none⟩), v] w (CkPost w cb mb (namedF L e)) := by
  intro e
  induction e with
  | nil =>
    intro v w _ hc ha _
    have hv : v = .pointer none := ha
    subst hv
    have HR : Hid (namedF L .nil = none) := Lib.hid rfl
    clear hc ha
    go_enter Tryz.func138, Tryz.ntmps138
    go_wp2_with fail
    go_ret
    exact ⟨rfl, Ext.refl _⟩
  | exp k t ln l r ihl ihr =>
    intro v w hok hc ha hhi
    obtain ⟨b, vl, vr, rfl, hlo, hb, hcell, hal, har⟩ := ha
    have hok : (Ast.exp k t ln l r).okE := hok.resolve_left (by simp)
    obtain ⟨hfit, hsh⟩ := hok
    have hkl : l = .nil ∨ l.okE := by rcases hsh with ⟨_, h, _⟩ | ⟨_, h, _⟩ | ⟨_, h, _⟩ <;> first | exact .inl h | exact .inr h
    have hkr : r = .nil ∨ r.okE := by rcases hsh with ⟨_, _, h⟩ | ⟨_, _, h⟩ | ⟨_, _, h⟩ <;> first | exact .inl h | exact .inr h
    have iHl := fun w' (hE : Ext w w') => ihl vl w' hkl (hc.keep hE) (hE.ast hhi (Nat.le_refl _) (Nat.le_refl _) hal) (Nat.le_trans hhi hE.size)
    have iHr := fun w' (hE : Ext w w') => ihr vr w' hkr (hc.keep hE) (hE.ast hhi (Nat.le_refl _) (Nat.le_refl _) har) (Nat.le_trans hhi hE.size)
    have hus := fun w' (hE : Ext w w') ix => used_any t ix (Nat.le_trans hfit.1 (by simp [maxLen])) w' (hc.keep hE)
    have hcells : ∀ w', Ext w w' → w'.cell? ⟨b, 0, none⟩ = some (.int .i64 k) ∧ w'.cell? ⟨b, 1, none⟩ = some (.int .i64 t.kind) ∧ w'.cell? ⟨b, 2, none⟩ = some (.string t.text) ∧ w'.cell? ⟨b, 3, none⟩ = some (.int .i64 t.line) ∧ w'.cell? ⟨b, 4, none⟩ = some (.int .u32 t.num) ∧
        w'.cell? ⟨b, 6, none⟩ = some vl ∧ w'.cell? ⟨b, 7, none⟩ = some vr := fun w' hE => by
      have h := (hE.block _ (cells_of_heap hcell).2.2).trans hcell
      exact ⟨cell_of_heap h, cell_of_heap h, cell_of_heap h, cell_of_heap h, cell_of_heap h, cell_of_heap h, cell_of_heap h⟩
    have hR : namedF L (.exp k t ln l r) = (if k = 2 ∨ k = 3 then usedF L t (k == 3) else none).or ((namedF L l).or (namedF L r)) := rfl
    have HR := Lib.hid hR
    clear hR hc hal har hcell hsh hkl hkr ihl ihr hok
    generalize namedF L (.exp k t ln l r) = R at *
    generalize namedF L l = RL at *
    generalize namedF L r = RR at *
    generalize hul : usedF L t = U at *
    -- the two calls behind
    have back : ∀ w1, Ext w w1 → True := fun _ _ => trivial
    obtain ⟨c0, c1, c2, c3, c4, c6, c7⟩ := hcells w (Ext.refl w)
    by_cases h23 : k = 2 ∨ k = 3
    · have hS := hcells w.drew (Ext.refl w).drew
      have hur : ∀ ix, (k == 3) = ix → Hid (R = (U ix).or (RL.or RR)) := fun ix h => by
        have h1 := HR.out
        rw [if_pos h23, h] at h1
        exact h1
      have hsplit : ∃ ix : Bool, (k == 3) = ix ∧ ((((k : Int) == 2) = true ∧ ((k : Int) == 3) = false ∧ ix = false) ∨ (((k : Int) == 2) = false ∧ ((k : Int) == 3) = true ∧ ix = true)) := by
        rcases h23 with rfl | rfl
        · exact ⟨false, rfl, .inl ⟨rfl, rfl, rfl⟩⟩
        · exact ⟨true, rfl, .inr ⟨rfl, rfl, rfl⟩⟩
      obtain ⟨ix, hix, h2⟩ := hsplit
      have HR2 := hur ix hix
      have hu := hus w.drew (Ext.refl w).drew ix
      unfold Tok.val at hu
      generalize U ix = RU at *
      clear hur HR hix hus h23 hul
      obtain ⟨kind, text, line, num⟩ := t
      simp only at *
      have HU := Lib.hid hu
      clear hu
      go_enter Tryz.func138, Tryz.ntmps138
      rcases h2 with ⟨h2, h3, rfl⟩ | ⟨h2, h3, rfl⟩
      all_goals
        go_wp2_with fail
        refine wp_region_plan (fun w' => w'.cell? ⟨b, 0, none⟩ = some (.int .i64 k) ∧ w'.cell? ⟨b, 1, none⟩ = some (.int .i64 kind) ∧ w'.cell? ⟨b, 2, none⟩ = some (.string text) ∧ w'.cell? ⟨b, 3, none⟩ = some (.int .i64 line) ∧ w'.cell? ⟨b, 4, none⟩ = some (.int .u32 num) ∧
            w'.cell? ⟨b, 6, none⟩ = some vl ∧ w'.cell? ⟨b, 7, none⟩ = some vr)
          [(0, true), (1, true), (2, true), (3, true), (4, true), (5, true), (6, true), (7, true), (8, true), (9, true), (10, false)] true (by kernel_rfl) (by kernel_rfl) (fun c a d v w h => by cases d <;> exact h) hS ?_
        iterate 10 (refine ⟨_, ?_, rfl, Or.inl ⟨by rfl, ?_⟩, ?_⟩; rotate_left; (· intro w' hSw; (try dsimp only at hSw); go_simp; (try with_reducible rfl)); simp only [Act.put, List.setIfInBounds_toArray])
        refine wpPlan_act rfl (by rfl) (fun K hK => ?_)
        go_simp
        refine HU.out.mono ?_
        rintro e' w1 hp
        have he := hp.isB
        subst he
        refine hK _ _ (fun h => absurd rfl h) ⟨rfl, ?_⟩
        clear hK K
        try simp only [Act.put, List.setIfInBounds_toArray, List.set_cons_zero, List.set_cons_succ]
        cases hRU : RU with
        | some x =>
          subst hRU
          have HR3 : Hid (R = some x) := HR2.out
          go_wp2_with fail
          go_ret
          rw [HR3.out]
          exact hp.then (Ext.refl w).drew
        | none =>
          subst hRU
          have HR3 : Hid (R = RL.or RR) := HR2.out
          have hE0 : Ext w w1 := ((Ext.refl w).drew).trans hp.ext
          have il := iHl w1 hE0
          obtain ⟨m0, m1, m2, m3, m4, m6, m7⟩ := hcells w1 hE0
          go_wp2_with fail
          refine il.mono ?_
          rintro e w2 hp1
          have he := hp1.isB
          subst he
          cases hRL : RL with
          | some x =>
            subst hRL
            have HR4 : Hid (R = some x) := HR3.out
            go_wp2_with fail
            go_ret
            rw [HR4.out]
            exact hp1.then hE0
          | none =>
            subst hRL
            have HR4 : Hid (R = RR) := HR3.out
            have hE1 := hE0.trans hp1.ext
            obtain ⟨d0, d1, d2, d3, d4, d6, d7⟩ := hcells w2 hE1
            have ir := iHr w2 hE1
            go_wp2_with fail
            refine ir.mono ?_
            rintro e w3 hp2
            have he := hp2.isB
            subst he
            go_wp2_with fail
            go_ret
            rw [HR4.out]
            exact hp2.then hE1
    · have HR2 : Hid (R = RL.or RR) := by
        have h := HR.out
        rw [if_neg h23, Option.none_or] at h
        exact h
      have n2 : ((k : Int) == 2) = false := by rw [beq_eq_false_iff_ne]; omega
      have n3 : ((k : Int) == 3) = false := by rw [beq_eq_false_iff_ne]; omega
      clear HR hus hul
      have il := iHl w (Ext.refl w)
      go_enter Tryz.func138, Tryz.ntmps138
      go_wp2_with fail
      refine il.mono ?_
      rintro e w1 hp
      have he := hp.isB
      subst he
      cases hRL : RL with
      | some x =>
        subst hRL
        have HR3 : Hid (R = some x) := HR2.out
        go_wp2_with fail
        go_ret
        rw [HR3.out]
        exact hp
      | none =>
        subst hRL
        have HR3 : Hid (R = RR) := HR2.out
        have hE1 := hp.ext
        obtain ⟨d0, d1, d2, d3, d4, d6, d7⟩ := hcells w1 hE1
        have ir := iHr w1 hE1
        go_wp2_with fail
        refine ir.mono ?_
        rintro e w2 hp2
        have he := hp2.isB
        subst he
        go_wp2_with fail
        go_ret
        rw [HR3.out]
        exact hp2.then hE1
  | _ =>
    intro v w hok
    rcases hok with h | h
    · cases h
    · exact absurd h (by simp [Ast.okE])
end Go.Proofs.YtgjgaeloehfhiaaGreatDoor
end
section
/- How great the trees of a reading are; where a reading ends; that a fault has a line. -/
namespace Go.Proofs.YtgjgaeloehfhiaaGreatDoor
open Go.RowKit

/-- How many parts a tree has. -/
def Ast.sz : Ast → Nat
  | .nil | .lnil => 0
  | .exp _ _ _ l r => 1 + l.sz + r.sz
  | .stm _ _ e f body rest _ => 1 + e.sz + f.sz + body.sz + rest.sz
  | .blk _ l => 1 + l.sz
  | .cons h t => 1 + h.sz + t.sz

theorem sz_snoc (s : Ast) : ∀ l : List Ast, (ofList (l ++ [s])).sz = (ofList l).sz + s.sz + 1
  | [] => by simp [ofList, Ast.sz]; omega
  | a :: l => by
    have := sz_snoc s l
    simp only [List.cons_append, ofList, Ast.sz]
    omega

def What.szOK : What → Nat → Ast → Nat → Prop
  | .operand, p, a, b | .expr _, p, a, b => a.sz + 3 * p ≤ 3 * b
  | .rest _ e, p, a, b => a.sz + 3 * p ≤ e.sz + 3 * b
  | .assign, p, a, b | .choice, p, a, b | .stmt, p, a, b => a.sz + 2 + 3 * p ≤ 3 * b
  | .block, p, a, b => a.sz + 4 + 3 * p ≤ 3 * b
  | .stmts acc, p, a, b => a.sz + 3 + 3 * p ≤ (ofList acc).sz + 3 * b

theorem pr_size (toks : List Tok) (f : Nat) : ∀ (wh : What) (p : Nat) (a : Ast) (b : Nat), pr toks f wh p = .ok (a, b) → wh.szOK p a b := by
  induction f with
  | zero => intro wh p a b h; simp [pr] at h
  | succ f ih =>
    intro wh p a b h
    cases wh with
    | operand =>
      simp only [pr] at h
      have e1 := fun (x : Nat) (u : Ast) (v : Nat) (hh : pr toks f (.expr 1) x = .ok (u, v)) => ih _ _ _ _ hh
      have e2 := fun (x : Nat) (u : Ast) (v : Nat) (hh : pr toks f .operand x = .ok (u, v)) => ih _ _ _ _ hh
      simp only [What.szOK] at e1 e2 ⊢
      grind [Ast.sz]
    | expr t =>
      simp only [pr] at h
      have e1 := fun (x : Nat) (u : Ast) (v : Nat) (hh : pr toks f .operand x = .ok (u, v)) => ih _ _ _ _ hh
      have e2 := fun (x : Nat) (e u : Ast) (v : Nat) (hh : pr toks f (.rest t e) x = .ok (u, v)) => ih _ _ _ _ hh
      simp only [What.szOK] at e1 e2 ⊢
      grind
    | rest t e =>
      simp only [pr] at h
      have e1 := fun (tt x : Nat) (u : Ast) (v : Nat) (hh : pr toks f (.expr tt) x = .ok (u, v)) => ih _ _ _ _ hh
      have e2 := fun (x : Nat) (e u : Ast) (v : Nat) (hh : pr toks f (.rest t e) x = .ok (u, v)) => ih _ _ _ _ hh
      simp only [What.szOK] at e1 e2 ⊢
      grind [Ast.sz]
    | assign =>
      simp only [pr] at h
      have e1 := fun (x : Nat) (u : Ast) (v : Nat) (hh : pr toks f (.expr 1) x = .ok (u, v)) => ih _ _ _ _ hh
      simp only [What.szOK] at e1 ⊢
      grind [Ast.sz]
    | choice =>
      simp only [pr] at h
      have e1 := fun (x : Nat) (u : Ast) (v : Nat) (hh : pr toks f (.expr 1) x = .ok (u, v)) => ih _ _ _ _ hh
      have e2 := fun (x : Nat) (u : Ast) (v : Nat) (hh : pr toks f .block x = .ok (u, v)) => ih _ _ _ _ hh
      have e3 := fun (x : Nat) (u : Ast) (v : Nat) (hh : pr toks f .choice x = .ok (u, v)) => ih _ _ _ _ hh
      simp only [What.szOK] at e1 e2 e3 ⊢
      have e4 : ∀ t e b s, (Ast.stm 2 t e .nil b (.blk 0 (.cons s .lnil)) true).sz = e.sz + b.sz + s.sz + 3 := fun t e b s => by simp [Ast.sz]; omega
      have e5 : ∀ t e b s l, (Ast.stm 2 t e .nil b s l).sz = e.sz + b.sz + s.sz + 1 := fun t e b s l => by simp [Ast.sz]; omega
      have e6 : Ast.nil.sz = 0 := rfl
      grind
    | block =>
      simp only [pr] at h
      have e1 := fun (x : Nat) (u : Ast) (v : Nat) (hh : pr toks f (.stmts []) x = .ok (u, v)) => ih _ _ _ _ hh
      have e4 : (ofList []).sz = 0 := rfl
      simp only [What.szOK, e4] at e1 ⊢
      grind [Ast.sz]
    | stmts acc =>
      simp only [pr] at h
      split at h
      · simp only [Except.ok.injEq, Prod.mk.injEq] at h
        simp only [What.szOK]
        rw [← h.1, ← h.2]; omega
      · split at h
        · simp at h
        · rename_i s x hs
          have h1 : s.sz + 2 + 3 * p ≤ 3 * x := ih _ _ _ _ hs
          have h2 : a.sz + 3 + 3 * x ≤ (ofList (acc ++ [s])).sz + 3 * b := ih _ _ _ _ h
          rw [sz_snoc] at h2
          simp only [What.szOK]
          omega
    | stmt =>
      simp only [pr] at h
      have e0 := fun (x : Nat) (u : Ast) (v : Nat) (hh : pr toks f .assign x = .ok (u, v)) => ih _ _ _ _ hh
      have e1 := fun (x : Nat) (u : Ast) (v : Nat) (hh : pr toks f (.expr 1) x = .ok (u, v)) => ih _ _ _ _ hh
      have e2 := fun (x : Nat) (u : Ast) (v : Nat) (hh : pr toks f .block x = .ok (u, v)) => ih _ _ _ _ hh
      have e3 := fun (x : Nat) (u : Ast) (v : Nat) (hh : pr toks f .choice x = .ok (u, v)) => ih _ _ _ _ hh
      simp only [What.szOK] at e0 e1 e2 e3 ⊢
      grind [Ast.sz]
end Go.Proofs.YtgjgaeloehfhiaaGreatDoor
end
