/- The checker: lists of statements, statements. -/
import Derived.Test.YtgjgaeloehfhiaaGreatDoorM03
section
namespace Go.Proofs.YtgjgaeloehfhiaaGreatDoor
open Go.RowKit

/-- The parts of a list of trees. -/
def Ast.items : Ast → List Ast
  | .cons h t => h :: t.items
  | _ => []
def Ast.isL : Ast → Prop
  | .lnil => True
  | .cons _ t => t.isL
  | _ => False

theorem okS_isL : ∀ {a : Ast}, a.okS → (a = .lnil ∨ ∃ h t, a = .cons h t) → a.isL := by
  intro a
  induction a with
  | cons h t ih1 ih2 => exact fun ho _ => ih2 ho.2.2.1 ho.2.2.2
  | lnil => exact fun _ _ => trivial
  | _ => rintro _ (h | ⟨_, _, h⟩) <;> cases h
theorem okS_blk {ln : Nat} {l : Ast} (h : (Ast.blk ln l).okS) : l.okS ∧ l.isL := ⟨h.1, okS_isL h.1 h.2⟩
theorem okS_items : ∀ {a : Ast}, a.okS → a.isL → ∀ x ∈ a.items, x.okS ∧ x.isStm := by
  intro a
  induction a with
  | cons h t ih1 ih2 =>
    intro ho hl x hx
    rcases List.mem_cons.1 hx with rfl | hx
    · exact ⟨ho.1, ho.2.1⟩
    · exact ih2 ho.2.2.1 hl x hx
  | _ => intro _ _ x hx; cases hx
theorem items_len : ∀ {a : Ast}, a.isL → a.items.length ≤ a.sz := by
  intro a
  induction a with
  | cons h t ih1 ih2 => intro hl; have := ih2 hl; simp only [Ast.items, List.length_cons, Ast.sz]; omega
  | _ => intro _; simp [Ast.items]
theorem items_sz : ∀ {a : Ast}, ∀ x ∈ a.items, x.sz < a.sz := by
  intro a
  induction a with
  | cons h t ih1 ih2 =>
    intro x hx
    rcases List.mem_cons.1 hx with rfl | hx
    · simp only [Ast.sz]; omega
    · have := ih2 x hx; simp only [Ast.sz]; omega
  | _ => intro x hx; cases hx

/-- A list in memory: a slice, each part at its place. -/
theorem list_at {w : World} {lo hi : Nat} : ∀ {l : Ast} {v : Value}, AstAt w lo hi l v → l.isL → ∃ a c, v = .slice a l.items.length c ∧
    ∀ (i : Nat) (x : Ast), l.items[i]? = some x → ∃ b off u, a = some ⟨b, off, none⟩ ∧ lo ≤ b ∧ b < hi ∧ w.cell? ⟨b, off + i, none⟩ = some u ∧ AstAt w lo hi x u := by
  intro l
  induction l with
  | lnil => rintro v ⟨a, c, rfl⟩ _; exact ⟨a, c, rfl, fun i x h => by simp [Ast.items] at h⟩
  | cons h t ih1 ih2 =>
    rintro v ⟨b, off, n, c, vh, rfl, h1, h2, hc, g1, g2⟩ hl
    obtain ⟨a', c', hv, hi'⟩ := ih2 g2 hl
    have hn : n = t.items.length := by injection hv
    subst hn
    have ha' : some (⟨b, off + 1, none⟩ : Addr) = a' := by injection hv
    subst ha'
    refine ⟨some ⟨b, off, none⟩, c, rfl, fun i x hx => ?_⟩
    cases i with
    | zero => simp only [Ast.items, List.getElem?_cons_zero, Option.some.injEq] at hx; subst hx; exact ⟨b, off, vh, rfl, h1, h2, hc, g1⟩
    | succ i =>
      simp only [Ast.items, List.getElem?_cons_succ] at hx
      obtain ⟨b', off', u, e, q1, q2, q3, q4⟩ := hi' i x hx
      simp only [Option.some.injEq, Addr.mk.injEq] at e
      obtain ⟨rfl, rfl, -⟩ := e
      exact ⟨b, off, u, rfl, q1, q2, by rw [show off + (i + 1) = off + 1 + i by omega]; exact q3, q4⟩
  | _ => intro v _ h; exact h.elim

/-- Each statement within a tree, not within others. -/
def Ast.each (p : Ast → Prop) : Ast → Prop
  | .stm k t e f body rest link => p (.stm k t e f body rest link)
  | .blk _ l => l.each p
  | .cons h t => h.each p ∧ t.each p
  | _ => True
theorem each_all {p : Ast → Prop} (h : ∀ k t e f body rest link, body.each p → rest.each p → p (.stm k t e f body rest link)) : ∀ a : Ast, a.each p := by
  intro a
  induction a with
  | stm k t e f body rest link ih1 ih2 ih3 ih4 => exact h k t e f body rest link ih3 ih4
  | blk ln l ih => exact ih
  | cons h t ih1 ih2 => exact ⟨ih1, ih2⟩
  | _ => trivial
theorem each_items {p : Ast → Prop} : ∀ {a : Ast}, a.each p → ∀ x ∈ a.items, x.isStm → p x := by
  intro a
  induction a with
  | cons h t ih1 ih2 =>
    intro ha x hx hs
    rcases List.mem_cons.1 hx with rfl | hx
    · cases x <;> first | exact hs.elim | exact ha.1
    · exact ih2 ha.2 x hx hs
  | _ => intro _ x hx; cases hx

/-- The first fault among the names of statements that stand within so many loops. -/
def chkF (L : Places) : Ast → Nat → Option (Nat × Nat)
  | .stm k t e f body rest _, loops =>
    (if k = 0 ∨ k = 1 then usedF L t (k == 1) else if (k = 7 ∨ k = 8) ∧ loops = 0 then some (t.line, 231) else none).or
      ((namedF L e).or ((namedF L f).or ((chkF L body (if k = 3 then loops + 1 else loops)).or (chkF L rest (if k = 3 then loops + 1 else loops)))))
  | .blk _ l, loops => chkF L l loops
  | .cons h t, loops => (chkF L h loops).or (chkF L t loops)
  | _, _ => none
def chkL (L : Places) (loops : Nat) : List Ast → Option (Nat × Nat)
  | [] => none
  | x :: l => (chkF L x loops).or (chkL L loops l)
theorem chkF_items (L : Places) (loops : Nat) : ∀ {a : Ast}, a.isL → chkF L a loops = chkL L loops a.items := by
  intro a
  induction a with
  | cons h t ih1 ih2 => intro hl; simp only [chkF, Ast.items, chkL, ih2 hl]
  | lnil => intro _; rfl
  | _ => intro h; exact h.elim

/-- What is claimed of a statement. -/
def StmC (cb mb n : Nat) (L : Places) (a : Ast) : Prop := ∀ (loops : Nat) (v : Value) (w : World) (lo hi : Nat), a.okS → a.isStm → Ck w cb mb n L → AstAt w lo hi a v → hi ≤ w.heap.size → loops + a.sz ≤ 1000000 →
  Calls Tryz.prog 101 #[.pointer (some ⟨cb, 0, none⟩), v, .int .i64 loops] w (CkPost w cb mb (chkF L a loops))

/-- The loop over a list. -/
def ChkRel (L : Places) (loops : Nat) (items : List Ast) (R : Option (Nat × Nat)) (w : World) (k : Nat) (wr : World) : Prop := Ext w wr ∧ chkL L loops (items.drop k) = R

set_option maxRecDepth 100000 in
set_option maxHeartbeats 1600000 in
theorem stms_any {cb mb n lo hi loops : Nat} {L : Places} (l : Ast) (v : Value) (w : World) (hs : ∀ x ∈ l.items, StmC cb mb n L x) (hok : l.okS) (hl : l.isL) (hc : Ck w cb mb n L) (ha : AstAt w lo hi l v) (hhi : hi ≤ w.heap.size)
    (hsz : loops + l.sz ≤ 1000000) :
    Calls Tryz.prog 55 #[.pointer (some ⟨cb, 0, none⟩), v, .int .i64 loops] w (CkPost w cb mb (chkF L l loops)) := by
  rw [chkF_items L loops hl]
  have hit := okS_items hok hl
  have hln := items_len hl
  have hiz := @items_sz l
  obtain ⟨a, c, rfl, hel⟩ := list_at ha hl
  have HC := Lib.hid hc
  have HEL : Hid (∀ (i : Nat) (x : Ast), l.items[i]? = some x → ∃ b off u, a = some ⟨b, off, none⟩ ∧ lo ≤ b ∧ b < hi ∧ w.cell? ⟨b, off + i, none⟩ = some u ∧ AstAt w lo hi x u) := Lib.hid hel
  have HIT := Lib.hid (show ∀ x ∈ l.items, StmC cb mb n L x ∧ x.okS ∧ x.isStm ∧ loops + x.sz ≤ 1000000 from fun x hx => ⟨hs x hx, (hit x hx).1, (hit x hx).2, by have := hiz x hx; omega⟩)
  have hlen : l.items.length ≤ 1000000 := by omega
  clear hs hok hl hc ha hel hit hln hiz hsz
  generalize l.items = items at *
  have HREL : Hid (ChkRel L loops items (chkL L loops items) w 0 w) := ⟨Ext.refl w, rfl⟩
  generalize chkL L loops items = R at *
  go_enter Tryz.func55, Tryz.ntmps55
  go_wp2_with fail
  go_loopw [11] (fun i wr => ∃ k : Nat, k ≤ items.length ∧ i = .int .i64 k ∧ ChkRel L loops items R w k wr) (fun i _ => items.length - (intOf i).toNat)
  case atStart => exact ⟨0, by omega, rfl, HREL.out⟩
  case round =>
    obtain ⟨k, hk, rfl, hrel⟩ := hrel
    have HR := Lib.hid hrel
    clear hrel HREL
    by_cases hlt : k < items.length
    · obtain ⟨b, off, u, rfl, hb1, hb2, hcell, hau⟩ := HEL.out k items[k] (List.getElem?_eq_getElem hlt)
      obtain ⟨hS, hok, hst, hz⟩ := HIT.out items[k] (List.getElem_mem hlt)
      have hE := HR.out.1
      have hd := HR.out.2
      rw [List.drop_eq_getElem_cons hlt] at hd
      simp only [chkL] at hd
      have hcall := hS loops u wr lo hi hok hst (HC.out.keep hE) (hE.ast hhi (Nat.le_refl _) (Nat.le_refl _) hau) (Nat.le_trans hhi hE.size) hz
      have hcell2 : wr.cell? ⟨b, off + k, none⟩ = some u := (hE.cell _ _ (by omega)).trans hcell
      have HD := Lib.hid hd
      have HE := Lib.hid hE
      have HK := Lib.hid hcall
      clear hd hE hcall hcell hau hS hok hst hz HR
      generalize chkF L items[k] loops = r1 at *
      go_wp2_with fail
      refine HK.out.mono ?_
      rintro e w2 hp
      have he := hp.isB
      subst he
      cases r1 with
      | some x =>
        have HX : Hid (R = some x) := Lib.hid HD.out.symm
        go_wp2_with fail
        go_ret
        rw [HX.out]
        exact hp.then HE.out
      | none =>
        go_wp2_with fail
        exact ⟨⟨k + 1, by omega, by go_num, HE.out.trans hp.ext, HD.out⟩, by simp [intOf]; omega⟩
    · have hd := HR.out.2
      rw [List.drop_eq_nil_of_le (by omega)] at hd
      have HD : Hid (R = none) := Lib.hid hd.symm
      clear hd
      go_wp2_with fail
      go_ret
      rw [HD.out]
      exact ⟨rfl, HR.out.1⟩
end Go.Proofs.YtgjgaeloehfhiaaGreatDoor
end
section
/- The checker: blocks within a statement; a statement. -/
namespace Go.Proofs.YtgjgaeloehfhiaaGreatDoor
open Go.RowKit

/-- No block, or one in good shape. -/
def Ast.okB (a : Ast) : Prop := a = .nil ∨ (a.okS ∧ a.isBlk)

set_option maxRecDepth 100000 in
set_option maxHeartbeats 1600000 in
theorem inner_any {cb mb n lo hi loops : Nat} {L : Places} (a : Ast) (v : Value) (w : World) (hs : a.each (StmC cb mb n L)) (hok : a.okB) (hc : Ck w cb mb n L) (ha : AstAt w lo hi a v) (hhi : hi ≤ w.heap.size)
    (hsz : loops + a.sz ≤ 1000000) :
    Calls Tryz.prog 139 #[.pointer (some ⟨cb, 0, none⟩), v, .int .i64 loops] w (CkPost w cb mb (chkF L a loops)) := by
  rcases hok with rfl | ⟨hok, hbk⟩
  · have hv : v = .pointer none := ha
    subst hv
    have HR : Hid (chkF L .nil loops = none) := Lib.hid rfl
    generalize chkF L .nil loops = R at *
    clear hc ha hs hsz
    go_enter Tryz.func139, Tryz.ntmps139
    go_wp2_with fail
    go_ret
    rw [HR.out]
    exact ⟨rfl, Ext.refl _⟩
  · cases a with
    | blk ln l =>
      obtain ⟨b, vl, rfl, h1, h2, hcell, hl⟩ := ha
      obtain ⟨hok2, hL⟩ := okS_blk hok
      have hcall := stms_any (loops := loops) l vl w (fun x hx => each_items (a := l) hs x hx (okS_items hok2 hL x hx).2) hok2 hL hc hl hhi (by simp only [Ast.sz] at hsz; omega)
      have HR : Hid (chkF L (.blk ln l) loops = chkF L l loops) := Lib.hid rfl
      obtain ⟨c0, c1, c2⟩ := cells_of_heap hcell
      have c3 := c0 1
      simp only [List.getElem?_toArray, List.getElem?_cons_zero, List.getElem?_cons_succ] at c3
      clear hok hbk hs hc hl hok2 hL c0 c1 hcell hsz
      generalize chkF L (.blk ln l) loops = R at *
      generalize chkF L l loops = R2 at *
      have HK := Lib.hid hcall
      clear hcall
      go_enter Tryz.func139, Tryz.ntmps139
      go_wp2_with fail
      refine HK.out.mono ?_
      rintro e w2 hp
      have he := hp.isB
      subst he
      go_wp2_with fail
      go_ret
      rw [HR.out]
      exact hp
    | _ => exact hbk.elim

theorem or_some {α : Type} {x : α} {r : Option α} : (some x).or r = some x := rfl
theorem or_none' {α : Type} {r : Option α} : (none : Option α).or r = r := rfl

set_option maxRecDepth 100000 in
set_option maxHeartbeats 12000000 in
theorem stm_chk {cb mb n : Nat} {L : Places} (k : Nat) (t : Tok) (e f body rest : Ast) (link : Bool) (hbody : body.each (StmC cb mb n L)) (hrest : rest.each (StmC cb mb n L)) : StmC cb mb n L (.stm k t e f body rest link) := by
  intro loops v w lo hi hok _ hc ha hhi hsz
  obtain ⟨b, ve, vf, vb, vr, rfl, hlo, hb, hcell, hae, haf, hab, har⟩ := ha
  obtain ⟨hfit, hsh⟩ := hok
  have hoe : e = .nil ∨ e.okE := by rcases hsh with h | h | h | h | h | h | h <;> simp only [h, true_or, or_true]
  have hof : f = .nil ∨ f.okE := by rcases hsh with h | h | h | h | h | h | h <;> simp only [h, true_or, or_true]
  have hob : body.okB := by unfold Ast.okB; rcases hsh with h | h | h | h | h | h | h <;> simp only [h, true_or, or_true, and_self]
  have hor : rest.okB := by
    unfold Ast.okB
    rcases hsh with h | h | h | h | h | h | h
    case inr.inr.inl => rcases h.2.2.2.2.2 with h | h <;> simp only [h, true_or, or_true, and_self]
    all_goals simp only [h, true_or]
  simp only [Ast.sz] at hsz
  have iE := fun w' (hE : Ext w w') => named_any e ve w' hoe (hc.keep hE) (hE.ast hhi (Nat.le_refl _) (Nat.le_refl _) hae) (Nat.le_trans hhi hE.size)
  have iF := fun w' (hE : Ext w w') => named_any f vf w' hof (hc.keep hE) (hE.ast hhi (Nat.le_refl _) (Nat.le_refl _) haf) (Nat.le_trans hhi hE.size)
  have iB0 := fun lp (hl : lp ≤ loops + 1) w' (hE : Ext w w') => inner_any (loops := lp) body vb w' hbody hob (hc.keep hE) (hE.ast hhi (Nat.le_refl _) (Nat.le_refl _) hab) (Nat.le_trans hhi hE.size) (by omega)
  have iR0 := fun lp (hl : lp ≤ loops + 1) w' (hE : Ext w w') => inner_any (loops := lp) rest vr w' hrest hor (hc.keep hE) (hE.ast hhi (Nat.le_refl _) (Nat.le_refl _) har) (Nat.le_trans hhi hE.size) (by omega)
  have hus := fun w' (hE : Ext w w') ix => used_any t ix (Nat.le_trans hfit.1 (by simp [maxLen])) w' (hc.keep hE)
  have htl := fun w' (hE : Ext w w') => tell_any t.line 231 w' (hc.keep hE)
  have hcells : ∀ w', Ext w w' → w'.cell? ⟨b, 0, none⟩ = some (.int .i64 k) ∧ w'.cell? ⟨b, 1, none⟩ = some (.int .i64 t.kind) ∧ w'.cell? ⟨b, 2, none⟩ = some (.string t.text) ∧ w'.cell? ⟨b, 3, none⟩ = some (.int .i64 t.line) ∧ w'.cell? ⟨b, 4, none⟩ = some (.int .u32 t.num) ∧
      w'.cell? ⟨b, 5, none⟩ = some ve ∧ w'.cell? ⟨b, 6, none⟩ = some vf ∧ w'.cell? ⟨b, 7, none⟩ = some vb ∧ w'.cell? ⟨b, 8, none⟩ = some vr := fun w' hE => by
    have h := (hE.block _ (cells_of_heap hcell).2.2).trans hcell
    exact ⟨cell_of_heap h, cell_of_heap h, cell_of_heap h, cell_of_heap h, cell_of_heap h, cell_of_heap h, cell_of_heap h, cell_of_heap h, cell_of_heap h⟩
  obtain ⟨lp, hlp⟩ : ∃ lp, lp = if k = 3 then loops + 1 else loops := ⟨_, rfl⟩
  have hlp1 : lp ≤ loops + 1 := by rw [hlp]; split <;> omega
  have iB := iB0 lp hlp1
  have iR := iR0 lp hlp1
  clear iB0 iR0
  have hl3 : (((k : Int) == 3) = true ∧ lp = loops + 1) ∨ (((k : Int) == 3) = false ∧ lp = loops) := by
    by_cases h : k = 3
    · subst h; exact .inl ⟨rfl, by rw [hlp, if_pos rfl]⟩
    · exact .inr ⟨by rw [beq_eq_false_iff_ne]; omega, by rw [hlp, if_neg h]⟩
  have hR : chkF L (.stm k t e f body rest link) loops = (if k = 0 ∨ k = 1 then usedF L t (k == 1) else if (k = 7 ∨ k = 8) ∧ loops = 0 then some (t.line, 231) else none).or
      ((namedF L e).or ((namedF L f).or ((chkF L body lp).or (chkF L rest lp)))) := by rw [hlp]; rfl
  have HR := Lib.hid hR
  have hloops : loops ≤ 1000000 := by omega
  clear hR hc hae haf hab har hcell hsh hoe hof hob hor hbody hrest hlp hlp1 hsz
  generalize chkF L (.stm k t e f body rest link) loops = R at *
  generalize namedF L e = RE at *
  generalize namedF L f = RF at *
  generalize chkF L body lp = RB at *
  generalize chkF L rest lp = RR at *
  generalize hul : usedF L t = U at *
  obtain ⟨c0, c1, c2, c3, c4, c5, c6, c7, c8⟩ := hcells w (Ext.refl w)
  -- what comes behind the switch
  by_cases h01 : k = 0 ∨ k = 1
  · have hS := hcells w.drew (Ext.refl w).drew
    have hur : ∀ ix, (k == 1) = ix → Hid (R = (U ix).or (RE.or (RF.or (RB.or RR)))) := fun ix h => by
      have h1 := HR.out
      rw [if_pos h01, h] at h1
      exact h1
    have hsplit : ∃ ix : Bool, (k == 1) = ix ∧ ((((k : Int) == 0) = true ∧ ((k : Int) == 1) = false ∧ ix = false) ∨ (((k : Int) == 0) = false ∧ ((k : Int) == 1) = true ∧ ix = true)) := by
      rcases h01 with rfl | rfl
      · exact ⟨false, rfl, .inl ⟨rfl, rfl, rfl⟩⟩
      · exact ⟨true, rfl, .inr ⟨rfl, rfl, rfl⟩⟩
    obtain ⟨ix, hix, h2⟩ := hsplit
    have h3 : ((k : Int) == 3) = false := by rcases h01 with rfl | rfl <;> rfl
    have hlp : lp = loops := by rcases hl3 with h | h; · rw [h3] at h; cases h.1
                                · exact h.2
    subst hlp
    have HR2 := hur ix hix
    have hu := hus w.drew (Ext.refl w).drew ix
    unfold Tok.val at hu
    generalize U ix = RU at *
    clear hur HR hix hus h01 hul hl3 htl
    obtain ⟨kind, text, line, num⟩ := t
    simp only at *
    have HU := Lib.hid hu
    clear hu
    go_enter Tryz.func101, Tryz.ntmps101
    rcases h2 with ⟨h2, h4, rfl⟩ | ⟨h2, h4, rfl⟩
    all_goals
      go_wp2_with fail
      refine wp_region_plan (fun w' => w'.cell? ⟨b, 0, none⟩ = some (.int .i64 k) ∧ w'.cell? ⟨b, 1, none⟩ = some (.int .i64 kind) ∧ w'.cell? ⟨b, 2, none⟩ = some (.string text) ∧ w'.cell? ⟨b, 3, none⟩ = some (.int .i64 line) ∧ w'.cell? ⟨b, 4, none⟩ = some (.int .u32 num) ∧
          w'.cell? ⟨b, 5, none⟩ = some ve ∧ w'.cell? ⟨b, 6, none⟩ = some vf ∧ w'.cell? ⟨b, 7, none⟩ = some vb ∧ w'.cell? ⟨b, 8, none⟩ = some vr)
        [(0, true), (1, true), (2, true), (3, true), (4, true), (5, true), (6, true), (7, true), (8, true), (9, true), (10, false)] true (by kernel_rfl) (by kernel_rfl) (fun c a d v w h => by cases d <;> exact h) hS ?_
      iterate 10 (refine ⟨_, ?_, rfl, Or.inl ⟨by rfl, ?_⟩, ?_⟩; rotate_left; (· intro w' hSw; (try dsimp only at hSw); go_simp; (try with_reducible rfl)); simp only [Act.put, List.setIfInBounds_toArray])
      refine wpPlan_act rfl (by rfl) (fun K hK => ?_)
      go_simp
      refine HU.out.mono ?_
      rintro e' w1 hp
      have he := hp.isB
      subst he
      refine hK _ _ (fun h => absurd rfl h) ⟨rfl, ?_⟩
      clear hK K
      try simp only [Act.put, List.setIfInBounds_toArray, List.set_cons_zero, List.set_cons_succ]
      cases hRU : RU with
      | some x =>
        subst hRU
        have HR3 : Hid (R = some x) := HR2.out
        go_wp2_with fail
        go_ret
        rw [HR3.out]
        exact hp.then (Ext.refl w).drew
      | none =>
        subst hRU
        have HR3 : Hid (R = RE.or (RF.or (RB.or RR))) := HR2.out
        have hE0 : Ext w w1 := ((Ext.refl w).drew).trans hp.ext
        have il := iE w1 hE0
        obtain ⟨m0, m1, m2, m3, m4, m5, m6, m7, m8⟩ := hcells w1 hE0
        go_wp2_with fail
        refine il.mono ?_
        rintro e w2 hp1
        have he := hp1.isB
        subst he
        cases RE with
        | some x =>
          have HR4 : Hid (R = some x) := HR3.out
          go_wp2_with fail
          go_ret
          rw [HR4.out]
          exact hp1.then hE0
        | none =>
          have HR4 : Hid (R = RF.or (RB.or RR)) := HR3.out
          have hE1 := hE0.trans hp1.ext
          obtain ⟨d0, d1, d2, d3, d4, d5, d6, d7, d8⟩ := hcells w2 hE1
          have ir := iF w2 hE1
          go_wp2_with fail
          refine ir.mono ?_
          rintro e w3 hp2
          have he := hp2.isB
          subst he
          cases RF with
          | some x =>
            have HR5 : Hid (R = some x) := HR4.out
            go_wp2_with fail
            go_ret
            rw [HR5.out]
            exact hp2.then hE1
          | none =>
            have HR5 : Hid (R = RB.or RR) := HR4.out
            have hE2 := hE1.trans hp2.ext
            obtain ⟨f0, f1, f2, f3, f4, f5, f6, f7, f8⟩ := hcells w3 hE2
            have ib := iB w3 hE2
            go_wp2_with fail
            refine ib.mono ?_
            rintro e w4 hp3
            have he := hp3.isB
            subst he
            cases RB with
            | some x =>
              have HR6 : Hid (R = some x) := HR5.out
              go_wp2_with fail
              go_ret
              rw [HR6.out]
              exact hp3.then hE2
            | none =>
              have HR6 : Hid (R = RR) := HR5.out
              have hE3 := hE2.trans hp3.ext
              obtain ⟨g0, g1, g2, g3, g4, g5, g6, g7, g8⟩ := hcells w4 hE3
              have iq := iR w4 hE3
              go_wp2_with fail
              refine iq.mono ?_
              rintro e w5 hp4
              have he := hp4.isB
              subst he
              go_wp2_with fail
              go_ret
              rw [HR6.out]
              exact hp4.then hE3
  · have n0 : ((k : Int) == 0) = false := by rw [beq_eq_false_iff_ne]; omega
    have n1 : ((k : Int) == 1) = false := by rw [beq_eq_false_iff_ne]; omega
    have HR1 : Hid (R = (if (k = 7 ∨ k = 8) ∧ loops = 0 then some (t.line, 231) else none).or (RE.or (RF.or (RB.or RR)))) := by
      have h := HR.out
      rw [if_neg h01] at h
      exact h
    clear HR hus hul
    by_cases h78 : (k = 7 ∨ k = 8) ∧ loops = 0
    · have HR2 : Hid (R = some (t.line, 231)) := by
        have h := HR1.out
        rw [if_pos h78] at h
        exact h
      obtain ⟨h78, rfl⟩ := h78
      have h2 : (((k : Int) == 7) = true) ∨ (((k : Int) == 7) = false ∧ ((k : Int) == 8) = true) := by
        rcases h78 with rfl | rfl
        · exact .inl rfl
        · exact .inr ⟨rfl, rfl⟩
      have tl := htl w (Ext.refl w)
      clear htl iE iF iB iR HR1 h78 hl3
      go_enter Tryz.func101, Tryz.ntmps101
      rcases h2 with h7 | ⟨h7, h8⟩
      all_goals
        go_wp2_with fail
        refine tl.mono ?_
        rintro e w3 hp
        have he : e = .returned (.bool true) := hp.1
        subst he
        go_wp2_with fail
        go_ret
        rw [HR2.out]
        exact hp
    · have HR2 : Hid (R = RE.or (RF.or (RB.or RR))) := by
        have h := HR1.out
        rw [if_neg h78] at h
        exact h
      have h2 : (((k : Int) == 7) = true ∧ ((loops : Int) == 0) = false) ∨ (((k : Int) == 7) = false ∧ ((k : Int) == 8) = true ∧ ((loops : Int) == 0) = false) ∨ (((k : Int) == 7) = false ∧ ((k : Int) == 8) = false) := by
        by_cases h7 : k = 7
        · subst h7
          exact .inl ⟨rfl, by rw [beq_eq_false_iff_ne]; omega⟩
        · by_cases h8 : k = 8
          · subst h8
            exact .inr (.inl ⟨rfl, rfl, by rw [beq_eq_false_iff_ne]; omega⟩)
          · exact .inr (.inr ⟨by rw [beq_eq_false_iff_ne]; omega, by rw [beq_eq_false_iff_ne]; omega⟩)
      clear htl HR1 h78 h01
      have il := iE w (Ext.refl w)
      go_enter Tryz.func101, Tryz.ntmps101
      rcases h2 with ⟨h7, hl0⟩ | ⟨h7, h8, hl0⟩ | ⟨h7, h8⟩
      all_goals
        go_wp2_with fail
        refine il.mono ?_
        rintro e w1 hp1
        have he := hp1.isB
        subst he
        cases RE with
        | some x =>
          have HR4 : Hid (R = some x) := HR2.out
          go_wp2_with fail
          go_ret
          rw [HR4.out]
          exact hp1
        | none =>
          have HR4 : Hid (R = RF.or (RB.or RR)) := HR2.out
          have hE1 := hp1.ext
          obtain ⟨d0, d1, d2, d3, d4, d5, d6, d7, d8⟩ := hcells w1 hE1
          have ir := iF w1 hE1
          go_wp2_with fail
          refine ir.mono ?_
          rintro e w3 hp2
          have he := hp2.isB
          subst he
          cases RF with
          | some x =>
            have HR5 : Hid (R = some x) := HR4.out
            go_wp2_with fail
            go_ret
            rw [HR5.out]
            exact hp2.then hE1
          | none =>
            have HR5 : Hid (R = RB.or RR) := HR4.out
            have hE2 := hE1.trans hp2.ext
            obtain ⟨f0, f1, f2, f3, f4, f5, f6, f7, f8⟩ := hcells w3 hE2
            have ib := iB w3 hE2
            rcases hl3 with ⟨h3, rfl⟩ | ⟨h3, rfl⟩
            all_goals
              go_wp2_with fail
              refine ib.mono ?_
              rintro e w4 hp3
              have he := hp3.isB
              subst he
              cases RB with
              | some x =>
                have HR6 : Hid (R = some x) := HR5.out
                go_wp2_with fail
                go_ret
                rw [HR6.out]
                exact hp3.then hE2
              | none =>
                have HR6 : Hid (R = RR) := HR5.out
                have hE3 := hE2.trans hp3.ext
                obtain ⟨g0, g1, g2, g3, g4, g5, g6, g7, g8⟩ := hcells w4 hE3
                have iq := iR w4 hE3
                go_wp2_with fail
                refine iq.mono ?_
                rintro e w5 hp4
                have he := hp4.isB
                subst he
                go_wp2_with fail
                go_ret
                rw [HR6.out]
                exact hp4.then hE3

theorem stm_chk_all {cb mb n : Nat} {L : Places} (a : Ast) : a.each (StmC cb mb n L) := each_all (fun k t e f body rest link h1 h2 => stm_chk k t e f body rest link h1 h2) a
end Go.Proofs.YtgjgaeloehfhiaaGreatDoor
end
section
/- The checker: declarations in memory; whether the variables are too many. -/
namespace Go.Proofs.YtgjgaeloehfhiaaGreatDoor
open Go.RowKit

/-- Declarations in memory: the slice v, in blocks below B. -/
def DeclsAt (w : World) (B : Nat) (ds : List (Tok × Nat)) (v : Value) : Prop := ∃ a c, v = .slice a ds.length c ∧ ds.length ≤ 100000 ∧
  ∀ i, i < ds.length → ∃ g, a = some ⟨g, 0, none⟩ ∧ g < B ∧ g < w.heap.size ∧ w.cell? ⟨g, i * 5, none⟩ = some (.int .i64 (ds.getD i default).1.kind) ∧ w.cell? ⟨g, i * 5 + 1, none⟩ = some (.string (ds.getD i default).1.text) ∧
    w.cell? ⟨g, i * 5 + 2, none⟩ = some (.int .i64 (ds.getD i default).1.line) ∧ w.cell? ⟨g, i * 5 + 3, none⟩ = some (.int .u32 (ds.getD i default).1.num) ∧ w.cell? ⟨g, i * 5 + 4, none⟩ = some (.int .u32 (ds.getD i default).2)

theorem DeclsAt.keep {w w' : World} {B : Nat} {ds : List (Tok × Nat)} {v : Value} (h : DeclsAt w B ds v) (hs : w.heap.size ≤ w'.heap.size) (hk : ∀ k, k < B → k < w.heap.size → w'.heap[k]? = w.heap[k]?) : DeclsAt w' B ds v := by
  obtain ⟨a, c, rfl, h1, h2⟩ := h
  refine ⟨a, c, rfl, h1, fun i hi => ?_⟩
  obtain ⟨g, rfl, hg, hgs, c0, c1, c2, c3, c4⟩ := h2 i hi
  have e := fun o => cell_same (w := w) (w' := w') (b := g) (o := o) (hk g hg hgs)
  exact ⟨g, rfl, hg, by omega, (e _).trans c0, (e _).trans c1, (e _).trans c2, (e _).trans c3, (e _).trans c4⟩

/-- A declaration whose token is fit and whose number is a word. -/
def DeclOK (d : Tok × Nat) : Prop := d.1.fit ∧ d.2 < 4294967296

/-- The first declaration by which the variables are too many. -/
def dataF : List (Tok × Nat) → Nat → Option (Nat × Nat)
  | [], _ => none
  | d :: l, sum => if 96 < sum + max 1 d.2 then some (d.1.line, 232) else dataF l (sum + max 1 d.2)

theorem imax1 (n : Nat) : (if (1 : Int) < (n : Int) then (n : Int) else 1) = ((max 1 n : Nat) : Int) := by split <;> omega

set_option maxRecDepth 100000 in
set_option maxHeartbeats 1600000 in
theorem data_any {cb mb n pb : Nat} {L : Places} (ds : List (Tok × Nat)) (vd vb : Value) (w : World) (hok : ∀ d ∈ ds, DeclOK d) (hc : Ck w cb mb n L) (hp : w.heap[pb]? = some (.cells #[vd, vb] 67 (0, 0))) (hd : DeclsAt w w.heap.size ds vd) :
    Calls Tryz.prog 26 #[.pointer (some ⟨cb, 0, none⟩), .pointer (some ⟨pb, 0, none⟩)] w (CkPost w cb mb (dataF ds 0)) := by
  obtain ⟨a, c, rfl, hlen, hel⟩ := hd
  obtain ⟨p0, -, hpb⟩ := cells_of_heap hp
  have p0 := p0 0
  simp only [List.getElem?_toArray, List.getElem?_cons_zero] at p0
  have htl := fun ln w' (hE : Ext w w') => tell_any ln 232 w' (hc.keep hE)
  have HEL := Lib.hid hel
  have HOK := Lib.hid hok
  have HT := Lib.hid htl
  clear hp hel hc hok htl
  have HREL : Hid (dataF (ds.drop 0) 0 = dataF ds 0) := rfl
  generalize dataF ds 0 = R at *
  go_enter Tryz.func26, Tryz.ntmps26
  go_wp2_with fail
  go_loopw [5, 13] (fun s i wr => ∃ k sum : Nat, k ≤ ds.length ∧ i = .int .i64 k ∧ s = .int .i64 sum ∧ sum ≤ 96 ∧ Ext w wr ∧ Hid (dataF (ds.drop k) sum = R)) (fun _ i _ => ds.length - (intOf i).toNat)
  case atStart => exact ⟨0, 0, by omega, rfl, rfl, by omega, Ext.refl w, HREL⟩
  case round =>
    obtain ⟨k, sum, hk, rfl, rfl, hsum, hE, HR⟩ := hrel
    clear HREL
    by_cases hlt : k < ds.length
    · obtain ⟨g, rfl, hg, -, c0, c1, c2, c3, c4⟩ := HEL.out k hlt
      have hd := HOK.out (ds.getD k default) (by rw [List.getD_eq_getElem?_getD, List.getElem?_eq_getElem hlt]; exact List.getElem_mem hlt)
      have hR := HR.out
      rw [List.drop_eq_getElem_cons hlt] at hR
      have hgd : ds.getD k default = ds[k] := by rw [List.getD_eq_getElem?_getD, List.getElem?_eq_getElem hlt]; rfl
      rw [← hgd] at hR
      simp only [dataF] at hR
      have d0 := (hE.cell _ _ hg).trans c0
      have d1 := (hE.cell _ _ hg).trans c1
      have d2 := (hE.cell _ _ hg).trans c2
      have d3 := (hE.cell _ _ hg).trans c3
      have d4 := (hE.cell _ _ hg).trans c4
      clear c0 c1 c2 c3 c4 hgd HR
      generalize ds.getD k default = d at *
      obtain ⟨⟨kind, text, line, num⟩, size⟩ := d
      obtain ⟨hf1, hf2⟩ := hd
      simp only at hR d0 d1 d2 d3 d4 hf2
      have tl := HT.out line (wr.alloc (.cells #[.int .i64 kind, .string text, .int .i64 line, .int .u32 num, .int .u32 size] 71)) (hE.alloc _)
      have HE := Lib.hid hE
      have hsz := hE.size
      obtain ⟨M, hM⟩ : ∃ M, M = max 1 size := ⟨_, rfl⟩
      have hm : (if (1 : Int) < (size : Int) then (size : Int) else 1) = (M : Int) := by rw [hM]; exact imax1 size
      have hMb : M ≤ 4294967296 := by omega
      rw [← hM] at hR
      clear hM
      by_cases hgt : 96 < sum + M
      · rw [if_pos hgt] at hR
        have HR := Lib.hid hR.symm
        have TL := Lib.hid tl
        clear hR hE tl hf1
        go_wp2_with fail
        all_goals
          refine TL.out.mono ?_
          rintro e w3 hp
          have he : e = .returned (.bool true) := hp.1
          subst he
          go_wp2_with fail
          go_ret
          rw [HR.out]
          exact hp.then (HE.out.alloc _)
      · rw [if_neg hgt] at hR
        have HR := Lib.hid hR
        clear hR hE tl hf1
        go_wp2_with fail
        all_goals exact ⟨⟨k + 1, sum + M, by omega, by go_num, by go_num, by omega, HE.out.alloc _, HR⟩, by simp [intOf]; omega⟩
    · have hR := HR.out
      rw [List.drop_eq_nil_of_le (by omega)] at hR
      have HR2 : Hid (R = none) := Lib.hid hR.symm
      have HE := Lib.hid hE
      clear hR HR hE
      go_wp2_with fail
      go_ret
      rw [HR2.out]
      exact ⟨rfl, HE.out⟩
end Go.Proofs.YtgjgaeloehfhiaaGreatDoor
end
