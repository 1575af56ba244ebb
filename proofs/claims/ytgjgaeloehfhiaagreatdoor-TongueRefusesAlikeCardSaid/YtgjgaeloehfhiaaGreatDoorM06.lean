/- The checker: depths of statements within blocks. -/
import Derived.Test.YtgjgaeloehfhiaaGreatDoorM05
import Derived.Test.YtgjgaeloehfhiaaGreatDoorM02
section
namespace Go.Proofs.YtgjgaeloehfhiaaGreatDoor
open Go.RowKit

/-- The first statement that stands too deep, or whose expressions are; lk: a block that counts for none. -/
def dpF : Ast → Nat → Bool → Option (Nat × Nat)
  | .stm _ _ e f body rest link, n, _ => ((deepF e).or (deepF f)).or ((dpF body n false).or (dpF rest n link))
  | .blk ln l, n, lk => if lk then dpF l n false else if 16 ≤ n then some (ln, 232) else dpF l (n + 1) false
  | .cons h t, n, _ => (dpF h n false).or (dpF t n false)
  | _, _, _ => none
def dpL (n : Nat) : List Ast → Option (Nat × Nat)
  | [] => none
  | x :: l => (dpF x n false).or (dpL n l)
theorem dpF_items (n : Nat) : ∀ {a : Ast}, a.isL → dpF a n false = dpL n a.items := by
  intro a
  induction a with
  | cons h t ih1 ih2 => intro hl; simp only [dpF, Ast.items, dpL, ih2 hl]
  | lnil => intro _; rfl
  | _ => intro h; exact h.elim

/-- What is claimed of a block's inside, of a list. -/
def WithinC (cb mb n : Nat) (L : Places) (a : Ast) : Prop := ∀ (wi : Nat) (v : Value) (w : World) (lo hi : Nat), Ck w cb mb n L → AstAt w lo hi a v → hi ≤ w.heap.size → wi ≤ 16 → a.okB → a.sz ≤ 1000000 →
  Calls Tryz.prog 57 #[.pointer (some ⟨cb, 0, none⟩), v, .int .i64 wi] w (CkPost w cb mb (dpF a wi false))
def DepthsC (cb mb n : Nat) (L : Places) (a : Ast) : Prop := ∀ (wi : Nat) (v : Value) (w : World) (lo hi : Nat), Ck w cb mb n L → AstAt w lo hi a v → hi ≤ w.heap.size → wi ≤ 16 → a.okS → a.isL → a.sz ≤ 1000000 →
  Calls Tryz.prog 27 #[.pointer (some ⟨cb, 0, none⟩), v, .int .i64 wi] w (CkPost w cb mb (dpF a wi false))
/-- .. and of a statement: of its blocks. -/
def BlocksC (cb mb n : Nat) (L : Places) : Ast → Prop
  | .stm _ _ _ _ body rest _ => WithinC cb mb n L body ∧ WithinC cb mb n L rest ∧ ∀ ln l, rest = .blk ln l → DepthsC cb mb n L l
  | _ => True

set_option maxRecDepth 100000 in
set_option maxHeartbeats 1600000 in
theorem within_any {cb mb n : Nat} {L : Places} (a : Ast) (hs : ∀ ln l, a = .blk ln l → DepthsC cb mb n L l) : WithinC cb mb n L a := by
  intro wi v w lo hi hc ha hhi hwi hok hsz
  rcases hok with rfl | ⟨hok, hbk⟩
  · have hv : v = .pointer none := ha
    subst hv
    have HR : Hid (dpF .nil wi false = none) := Lib.hid rfl
    generalize dpF .nil wi false = R at *
    clear hc ha hs hsz
    go_enter Tryz.func57, Tryz.ntmps57
    go_wp2_with fail
    go_ret
    rw [HR.out]
    exact ⟨rfl, Ext.refl _⟩
  · cases a with
    | blk ln l =>
      obtain ⟨b, vl, rfl, h1, h2, hcell, hl⟩ := ha
      obtain ⟨hok2, hL⟩ := okS_blk hok
      simp only [Ast.sz] at hsz
      have hcall := fun (h16 : wi + 1 ≤ 16) => hs ln l rfl (wi + 1) vl w lo hi hc hl hhi h16 hok2 hL (by omega)
      have tl := tell_any ln 232 w hc
      have hR : dpF (.blk ln l) wi false = if 16 ≤ wi then some (ln, 232) else dpF l (wi + 1) false := rfl
      have HR := Lib.hid hR
      obtain ⟨c0, -, -⟩ := cells_of_heap hcell
      have c3 := c0 1
      have c0 := c0 0
      simp only [List.getElem?_toArray, List.getElem?_cons_zero, List.getElem?_cons_succ] at c0 c3
      clear hok hbk hs hc hl hok2 hL hcell hsz hR
      generalize dpF (.blk ln l) wi false = R at *
      generalize dpF l (wi + 1) false = R2 at *
      have HK := Lib.hid hcall
      have TL := Lib.hid tl
      clear hcall tl
      go_enter Tryz.func57, Tryz.ntmps57
      by_cases hg : 16 ≤ wi
      · have HX : Hid (R = some (ln, 232)) := by
          have h := HR.out
          rw [if_pos hg] at h
          exact h
        go_wp2_with fail
        refine TL.out.mono ?_
        rintro e w3 hp
        have he : e = .returned (.bool true) := hp.1
        subst he
        go_wp2_with fail
        go_ret
        rw [HX.out]
        exact hp
      · have HX : Hid (R = R2) := by
          have h := HR.out
          rw [if_neg hg] at h
          exact h
        go_wp2_with fail
        refine (HK.out (by omega)).mono ?_
        rintro e w2 hp
        have he := hp.isB
        subst he
        go_wp2_with fail
        go_ret
        rw [HX.out]
        exact hp
    | _ => exact hbk.elim

set_option maxRecDepth 100000 in
set_option maxHeartbeats 6400000 in
theorem depths_any {cb mb n : Nat} {L : Places} (l : Ast) (hs : ∀ x ∈ l.items, BlocksC cb mb n L x) : DepthsC cb mb n L l := by
  intro wi v w lo hi hc ha hhi hwi hok hl hsz
  rw [dpF_items wi hl]
  have hit := okS_items hok hl
  have hln := items_len hl
  have hiz := @items_sz l
  obtain ⟨a, c, rfl, hel⟩ := list_at ha hl
  have HC := Lib.hid hc
  have HEL : Hid (∀ (i : Nat) (x : Ast), l.items[i]? = some x → ∃ b off u, a = some ⟨b, off, none⟩ ∧ lo ≤ b ∧ b < hi ∧ w.cell? ⟨b, off + i, none⟩ = some u ∧ AstAt w lo hi x u) := Lib.hid hel
  have HIT := Lib.hid (show ∀ x ∈ l.items, BlocksC cb mb n L x ∧ x.okS ∧ x.isStm ∧ x.sz ≤ 1000000 from fun x hx => ⟨hs x hx, (hit x hx).1, (hit x hx).2, by have := hiz x hx; omega⟩)
  have hlen : l.items.length ≤ 1000000 := by omega
  clear hs hok hl hc ha hel hit hln hiz hsz
  generalize l.items = items at *
  have HREL : Hid (dpL wi (items.drop 0) = dpL wi items) := rfl
  generalize dpL wi items = R at *
  go_enter Tryz.func27, Tryz.ntmps27
  go_wp2_with fail
  go_loopw [11] (fun i wr => ∃ k : Nat, k ≤ items.length ∧ i = .int .i64 k ∧ Ext w wr ∧ Hid (dpL wi (items.drop k) = R)) (fun i _ => items.length - (intOf i).toNat)
  case atStart => exact ⟨0, by omega, rfl, Ext.refl w, HREL⟩
  case round =>
    obtain ⟨k, hk, rfl, hE, hrel⟩ := hrel
    clear HREL
    by_cases hlt : k < items.length
    · obtain ⟨b, off, u, rfl, hb1, hb2, hcell, hau⟩ := HEL.out k items[k] (List.getElem?_eq_getElem hlt)
      obtain ⟨hS, hok, hst, hz⟩ := HIT.out items[k] (List.getElem_mem hlt)
      have hd := hrel.out
      rw [List.drop_eq_getElem_cons hlt] at hd
      simp only [dpL] at hd
      have hcell2 : wr.cell? ⟨b, off + k, none⟩ = some u := (hE.cell _ _ (by omega)).trans hcell
      have hau2 := hE.ast hhi (Nat.le_refl _) (Nat.le_refl _) hau
      have hck := HC.out.keep hE
      have hsw := hE.size
      have HE := Lib.hid hE
      clear hE hcell hau hrel
      generalize items[k] = x at *
      cases x with
      | stm kk t e f body rest link =>
        obtain ⟨sb, ve, vf, vb, vr, rfl, hlo, hb, hcell, hae, haf, hab, har⟩ := hau2
        obtain ⟨hfit, hsh⟩ := hok
        have hoe : e = .nil ∨ e.okE := by rcases hsh with h | h | h | h | h | h | h <;> simp only [h, true_or, or_true]
        have hof : f = .nil ∨ f.okE := by rcases hsh with h | h | h | h | h | h | h <;> simp only [h, true_or, or_true]
        have hob : body.okB := by unfold Ast.okB; rcases hsh with h | h | h | h | h | h | h <;> simp only [h, true_or, or_true, and_self]
        have hor : rest.okB ∧ (link = true → ∃ ln l2, rest = .blk ln l2 ∧ (Ast.blk ln l2).okS) := by
          unfold Ast.okB
          rcases hsh with h | h | h | h | h | h | h
          case inr.inr.inl =>
            rcases h.2.2.2.2.2 with h | h
            · exact ⟨.inl h.1, fun hl => by rw [h.2] at hl; cases hl⟩
            · exact ⟨.inr ⟨h.1, h.2.1⟩, fun hl => by obtain ⟨s, hs⟩ := h.2.2 hl; exact ⟨0, _, hs, hs ▸ h.1⟩⟩
          all_goals
            refine ⟨?_, fun hl => ?_⟩
            · simp only [h, true_or]
            · simp only [h, Bool.false_eq_true] at hl
        simp only [Ast.sz] at hz
        obtain ⟨hW1, hW2, hD2⟩ := hS
        have iE := fun w' (hE : Ext wr w') => deep_any e ve w' hoe (hck.keep hE) (hE.ast (Nat.le_trans hhi hsw) (Nat.le_refl _) (Nat.le_refl _) hae) (Nat.le_trans (Nat.le_trans hhi hsw) hE.size) (by omega)
        have iF := fun w' (hE : Ext wr w') => deep_any f vf w' hof (hck.keep hE) (hE.ast (Nat.le_trans hhi hsw) (Nat.le_refl _) (Nat.le_refl _) haf) (Nat.le_trans (Nat.le_trans hhi hsw) hE.size) (by omega)
        have hcells : ∀ w', Ext wr w' → w'.cell? ⟨sb, 5, none⟩ = some ve ∧ w'.cell? ⟨sb, 6, none⟩ = some vf ∧ w'.cell? ⟨sb, 7, none⟩ = some vb ∧ w'.cell? ⟨sb, 8, none⟩ = some vr ∧ w'.cell? ⟨sb, 9, none⟩ = some (.bool link) := fun w' hE => by
          have h := (hE.block _ (cells_of_heap hcell).2.2).trans hcell
          exact ⟨cell_of_heap h, cell_of_heap h, cell_of_heap h, cell_of_heap h, cell_of_heap h⟩
        have hxF : dpF (.stm kk t e f body rest link) wi false = ((deepF e).or (deepF f)).or ((dpF body wi false).or (dpF rest wi link)) := rfl
        rw [hxF] at hd
        have iB := fun w' (hE : Ext wr w') => hW1 wi vb w' lo hi (hck.keep hE) (hE.ast (Nat.le_trans hhi hsw) (Nat.le_refl _) (Nat.le_refl _) hab) (Nat.le_trans (Nat.le_trans hhi hsw) hE.size) hwi hob (by omega)
        have HD := Lib.hid hd
        clear hd hxF hsh hae haf hab hoe hof hob hW1
        generalize deepF e = RE at *
        generalize deepF f = RF at *
        generalize dpF body wi false = RB at *
        obtain ⟨c5, c6, c7, c8, c9⟩ := hcells wr (Ext.refl wr)
        have ie := iE wr (Ext.refl wr)
        have last : ∀ w4, Ext wr w4 → (link = true ∧ ∃ ln l2 b4 v4, rest = .blk ln l2 ∧ vr = .pointer (some ⟨b4, 0, none⟩) ∧ w4.cell? ⟨b4, 1, none⟩ = some v4 ∧ Calls Tryz.prog 27 #[.pointer (some ⟨cb, 0, none⟩), v4, .int .i64 wi] w4 (CkPost w4 cb mb (dpF rest wi link))) ∨
            (link = false ∧ Calls Tryz.prog 57 #[.pointer (some ⟨cb, 0, none⟩), vr, .int .i64 wi] w4 (CkPost w4 cb mb (dpF rest wi link))) := fun w4 hE4 => by
          cases hlk : link with
          | true =>
            obtain ⟨ln, l2, hr2, hok2⟩ := hor.2 hlk
            subst hr2
            obtain ⟨b4, v4, rfl, q1, q2, q3, q4⟩ := hE4.ast (Nat.le_trans hhi hsw) (Nat.le_refl _) (Nat.le_refl _) har
            refine .inl ⟨rfl, ln, l2, b4, v4, rfl, rfl, by rw [cell_of_heap q3]; rfl, ?_⟩
            obtain ⟨hok3, hL3⟩ := okS_blk hok2
            simp only [Ast.sz] at hz
            exact hD2 ln l2 rfl wi v4 w4 lo hi (hck.keep hE4) q4 (Nat.le_trans (Nat.le_trans hhi hsw) hE4.size) hwi hok3 hL3 (by omega)
          | false =>
            exact .inr ⟨rfl, hW2 wi vr w4 lo hi (hck.keep hE4) (hE4.ast (Nat.le_trans hhi hsw) (Nat.le_refl _) (Nat.le_refl _) har) (Nat.le_trans (Nat.le_trans hhi hsw) hE4.size) hwi hor.1 (by omega)⟩
        generalize dpF rest wi link = RR at *
        have LAST := Lib.hid last
        clear last har hor hW2 hD2 hck
        go_wp2_with fail
        refine ie.mono ?_
        rintro e w1 hp1
        have he := hp1.isB
        subst he
        cases RE with
        | some x =>
          have HX : Hid (R = some x) := Lib.hid HD.out.symm
          go_wp2_with fail
          go_ret
          rw [HX.out]
          exact hp1.then HE.out
        | none =>
          have hE1 := hp1.ext
          obtain ⟨d5, d6, d7, d8, d9⟩ := hcells w1 hE1
          have ir := iF w1 hE1
          go_wp2_with fail
          refine ir.mono ?_
          rintro e w3 hp2
          have he := hp2.isB
          subst he
          cases RF with
          | some x =>
            have HX : Hid (R = some x) := Lib.hid HD.out.symm
            go_wp2_with fail
            go_ret
            rw [HX.out]
            exact hp2.then (HE.out.trans hE1)
          | none =>
            have hE2 := hE1.trans hp2.ext
            obtain ⟨f5, f6, f7, f8, f9⟩ := hcells w3 hE2
            have ib := iB w3 hE2
            go_wp2_with fail
            refine ib.mono ?_
            rintro e w4 hp3
            have he := hp3.isB
            subst he
            cases RB with
            | some x =>
              have HX : Hid (R = some x) := Lib.hid HD.out.symm
              go_wp2_with fail
              go_ret
              rw [HX.out]
              exact hp3.then (HE.out.trans hE2)
            | none =>
              have hE3 := hE2.trans hp3.ext
              obtain ⟨g5, g6, g7, g8, g9⟩ := hcells w4 hE3
              have HE3 := Lib.hid (HE.out.trans hE3)
              have HD2 : Hid (RR.or (dpL wi (items.drop (k + 1))) = R) := HD.out
              rcases LAST.out w4 hE3 with ⟨rfl, ln, l2, b4, v4, rfl, rfl, hc4, hcl⟩ | ⟨rfl, hcl⟩
              all_goals
                have HCL := Lib.hid hcl
                clear hcl hE1 hE2 hE3 iE iF iB hcells LAST ie ir ib
                go_wp2_with fail
                refine HCL.out.mono ?_
                rintro e w5 hp4
                have he := hp4.isB
                subst he
                cases RR with
                | some x =>
                  have HX : Hid (R = some x) := Lib.hid HD2.out.symm
                  go_wp2_with fail
                  go_ret
                  rw [HX.out]
                  exact hp4.then HE3.out
                | none =>
                  go_wp2_with fail
                  exact ⟨⟨k + 1, by omega, by go_num, HE3.out.trans hp4.ext, HD2⟩, by simp [intOf]; omega⟩
      | _ => exact hst.elim
    · have hd := hrel.out
      rw [List.drop_eq_nil_of_le (by omega)] at hd
      have HD : Hid (R = none) := Lib.hid hd.symm
      have HE := Lib.hid hE
      clear hd hE
      go_wp2_with fail
      go_ret
      rw [HD.out]
      exact ⟨rfl, HE.out⟩

theorem blocks_all {cb mb n : Nat} {L : Places} (a : Ast) : a.each (BlocksC cb mb n L) := each_all (fun k t e f body rest link h1 h2 => by
  have hw : ∀ a : Ast, a.each (BlocksC cb mb n L) → (∀ ln l, a = .blk ln l → DepthsC cb mb n L l) := by
    rintro _ h ln l rfl
    intro wi v w lo hi hc ha hhi hwi hok hl hsz
    exact depths_any l (fun x hx => each_items (a := l) h x hx (okS_items hok hl x hx).2) wi v w lo hi hc ha hhi hwi hok hl hsz
  exact ⟨within_any body (hw body h1), within_any rest (hw rest h2), hw rest h2⟩) a
theorem depths_all {cb mb n : Nat} {L : Places} (l : Ast) : DepthsC cb mb n L l := by
  intro wi v w lo hi hc ha hhi hwi hok hl hsz
  exact depths_any l (fun x hx => each_items (blocks_all l) x hx (okS_items hok hl x hx).2) wi v w lo hi hc ha hhi hwi hok hl hsz
end Go.Proofs.YtgjgaeloehfhiaaGreatDoor
end
section
/- Append of what the call itself makes, with the row's block told; lists of trees under construction. Conditions: none. -/
namespace Go.Proofs.YtgjgaeloehfhiaaGreatDoor
open Go.RowKit

section
variable {P : Program}

theorem own_append (w : World) (base : Nat) (t ty e : TypeId) (i : TypeInfo) (z : Value) (size bytes : Nat) (ht : P.underlying t = some (.slice e)) (hi : P.info? e = some i) (hz : i.zero = some z)
    (hsize : i.size = size) (hby : i.bytes = bytes) (hzs : z.cells.size = size) (hsz : 0 < size)
    (v : Value) (n : Nat) (xs : List Value) (hown : w.ownsRow base e size v n xs)
    (a : Addr) (m c : Nat) (news : List Value) (hl : news.length = m * size) (hnews : ∀ j u, news[j]? = some u → w.cell? (a.add j) = some u) (h1 : ∀ u ∈ news, u.oneCell' = true)
    (h63 : n + m ≤ maxLen) (hbytes : (n + m) * bytes ≤ 140737488355328) (hbase : base ≤ w.heap.size) :
    ∃ v' w', (Builtin.append_ #[t, t] ty #[v, .slice (some a) m c]).run P w = .ok v' w' ∧ w'.ownsRow base e size v' (n + m) (xs ++ news) ∧ w.grownBy w' v.ownBlock ∧
      (∀ g, v'.ownBlock = some g → v.ownBlock = some g ∨ w.heap.size ≤ g) := by
  obtain ⟨v', w', hr, h2, h3, _⟩ := run_append_own (P := P) w base t ty e i z size bytes ht hi hz hsize hby hzs hsz v n xs hown a m c news hl hnews h1 h63 hbytes hbase
  have tail : ∀ (v2 : Value) (w2 : World) (k : Nat) (ys : List Value), (Builtin.append_ #[t, t] ty #[v, .slice (some a) m c]).run P w = .ok v2 w2 → w2.ownsRow w.heap.size e size v2 k ys →
      ∀ g, v'.ownBlock = some g → w.heap.size ≤ g := by
    intro v2 w2 k ys hr2 ho g hg
    rw [hr] at hr2
    simp only [Result.ok.injEq] at hr2
    obtain ⟨rfl, rfl⟩ := hr2
    rcases ho.2 with ⟨rfl, _⟩ | ⟨g', _, _, rfl, hb, _⟩
    · simp [Value.ownBlock] at hg
    · simp only [Value.ownBlock, Option.some.injEq] at hg
      omega
  refine ⟨v', w', hr, h2, h3, fun g hg => ?_⟩
  rcases hown.2 with ⟨rfl, rfl⟩ | ⟨g0, cap, cur, rfl, hbg, hh, hnc, hcm, hcs, htake⟩
  · have hx : xs = [] := List.eq_nil_of_length_eq_zero (by simpa using hown.1)
    subst hx
    obtain ⟨v2, w2, hr2, h22, _⟩ := run_append_own (P := P) w w.heap.size t ty e i z size bytes ht hi hz hsize hby hzs hsz (.slice none 0 0) 0 [] (World.ownsRow_nil w _ e size) a m c news hl hnews h1 h63 hbytes (Nat.le_refl _)
    exact .inr (tail v2 w2 _ _ hr2 h22 g hg)
  · by_cases hroom : n + m ≤ cap
    · have hfit : n * i.size + news.length ≤ cur.size := by rw [hl, hcs, hsize, ← Nat.add_mul]; exact Nat.mul_le_mul_right _ hroom
      have hr2 := run_append_room (P := P) w t ty e i ht hi g0 n cap cur hh a m c news (by rw [hl, hsize]) hnews h1 hroom hfit
      rw [hr] at hr2
      simp only [Result.ok.injEq] at hr2
      refine .inl ?_
      rw [hr2.1] at hg
      exact hg
    · have holds : ∀ j u, xs[j]? = some u → w.cell? ((⟨g0, 0, none⟩ : Addr).add j) = some u := hown.cells (g := g0) rfl
      obtain ⟨v2, w2, hr2, h22, _⟩ := run_append_arg_grows (P := P) (w := w) t ty e i z size bytes ht hi hz hsize hby hzs hsz ⟨g0, 0, none⟩ n cap xs hown.1 holds a m c news hl hnews (by omega) h63 hbytes
      exact .inr (tail v2 w2 _ _ hr2 h22 g hg)

theorem wp_own_append {w : World} {o : Oper} {a : Act} {K : Act → World → Prop} {Q : Exit → Act → World → Prop} (s x : Operand) (t : TypeId)
    (ho : o.op = .call { callee := .builtin .append, args := #[s, x], argTypes := #[t, t] })
    (base : Nat) (e : TypeId) (i : TypeInfo) (z : Value) (size bytes : Nat) (ht : P.underlying t = some (.slice e)) (hi : P.info? e = some i) (hz : i.zero = some z)
    (hsize : i.size = size) (hby : i.bytes = bytes) (hzs : z.cells.size = size) (hsz : 0 < size)
    (v : Value) (n : Nat) (xs : List Value) (hs : a.eval s = v) (hown : w.ownsRow base e size v n xs)
    (ad : Addr) (m c : Nat) (news : List Value) (hx : a.eval x = .slice (some ad) m c) (hl : news.length = m * size) (hnews : ∀ j u, news[j]? = some u → w.cell? (ad.add j) = some u) (h1 : ∀ u ∈ news, u.oneCell' = true)
    (h63 : n + m ≤ maxLen) (hbytes : (n + m) * bytes ≤ 140737488355328) (hbase : base ≤ w.heap.size)
    (h : ∀ v' w', w'.ownsRow base e size v' (n + m) (xs ++ news) → w.grownBy w' v.ownBlock → (∀ g, v'.ownBlock = some g → v.ownBlock = some g ∨ w.heap.size ≤ g) → K (a.put o.dst v') w') : o.wp P a w K Q := by
  obtain ⟨v', w', hr, h2, h3, h4⟩ := own_append (P := P) w base t o.type e i z size bytes ht hi hz hsize hby hzs hsz v n xs hown ad m c news hl hnews h1 h63 hbytes hbase
  unfold Oper.wp execOp
  simp only [ho, resolve, invoke, builtin, Sem.run_bind, Sem.run_pure, Result.andThen_ok, List.map_toArray, List.map_cons, List.map_nil, hs, hx, hr]
  exact h v' w' h2 h3 h4

theorem wpList_own_append {w : World} {ops : Array Oper} {rest : List Oper} {o : Oper} {a : Act} {Q : Exit → Act → World → Prop} (hgd : o.guard = none) (s x : Operand) (t : TypeId)
    (ho : o.op = .call { callee := .builtin .append, args := #[s, x], argTypes := #[t, t] })
    (base : Nat) (e : TypeId) (i : TypeInfo) (z : Value) (size bytes : Nat) (ht : P.underlying t = some (.slice e)) (hi : P.info? e = some i) (hz : i.zero = some z)
    (hsize : i.size = size) (hby : i.bytes = bytes) (hzs : z.cells.size = size) (hsz : 0 < size)
    (v : Value) (n : Nat) (xs : List Value) (hs : a.eval s = v) (hown : w.ownsRow base e size v n xs)
    (ad : Addr) (m c : Nat) (news : List Value) (hx : a.eval x = .slice (some ad) m c) (hl : news.length = m * size) (hnews : ∀ j u, news[j]? = some u → w.cell? (ad.add j) = some u) (h1 : ∀ u ∈ news, u.oneCell' = true)
    (h63 : n + m ≤ maxLen) (hbytes : (n + m) * bytes ≤ 140737488355328) (hbase : base ≤ w.heap.size)
    (h : ∀ v' w', w'.ownsRow base e size v' (n + m) (xs ++ news) → w.grownBy w' v.ownBlock → (∀ g, v'.ownBlock = some g → v.ownBlock = some g ∨ w.heap.size ≤ g) → wpList P ops Q rest (a.put o.dst v') w') : wpList P ops Q (o :: rest) a w :=
  wpList_plain hgd fun _ hK => wp_own_append s x t ho base e i z size bytes ht hi hz hsize hby hzs hsz v n xs hs hown ad m c news hx hl hnews h1 h63 hbytes hbase fun v' w' h2 h3 h4 => hK _ _ (h v' w' h2 h3 h4)
end

/-- A row's own block is there, and not below the base. -/
theorem own_block {w : World} {base e size n : Nat} {v : Value} {xs : List Value} (h : w.ownsRow base e size v n xs) {g : Nat} (hg : v.ownBlock = some g) : base ≤ g ∧ g < w.heap.size := by
  rcases h.2 with ⟨rfl, _⟩ | ⟨g', _, _, rfl, hb, hh, _⟩
  · simp [Value.ownBlock] at hg
  · simp only [Value.ownBlock, Option.some.injEq] at hg
    subst hg
    exact ⟨hb, (by
      by_cases hb : g' < w.heap.size
      · exact hb
      · rw [Array.getElem?_eq_none (by omega)] at hh; cases hh)⟩

/-- A row stays where its block stays. -/
theorem own_keep {w w' : World} {base base' e size n : Nat} {v : Value} {xs : List Value} (h : w.ownsRow base e size v n xs) (hk : ∀ g, v.ownBlock = some g → w'.heap[g]? = w.heap[g]?) (hb : base' ≤ base) : w'.ownsRow base' e size v n xs := by
  refine ⟨h.1, ?_⟩
  rcases h.2 with h2 | ⟨g, cap, cur, rfl, hbg, hh, r⟩
  · exact .inl h2
  · exact .inr ⟨g, cap, cur, rfl, by omega, by rw [hk g rfl]; exact hh, r⟩

/-- How a tree lies in a set of blocks. -/
def AstS (w : World) (D : Nat → Prop) : Ast → Value → Prop
  | .nil, v => v = .pointer none
  | .exp k t ln l r, v => ∃ b vl vr, v = .pointer (some ⟨b, 0, none⟩) ∧ D b ∧
      w.heap[b]? = some (.cells #[.int .i64 k, .int .i64 t.kind, .string t.text, .int .i64 t.line, .int .u32 t.num, .int .i64 ln, vl, vr] 197 (0, 0)) ∧
      AstS w D l vl ∧ AstS w D r vr
  | .stm k t e f body rest link, v => ∃ b ve vf vb vr, v = .pointer (some ⟨b, 0, none⟩) ∧ D b ∧
      w.heap[b]? = some (.cells #[.int .i64 k, .int .i64 t.kind, .string t.text, .int .i64 t.line, .int .u32 t.num, ve, vf, vb, vr, .bool link] 150 (0, 0)) ∧
      AstS w D e ve ∧ AstS w D f vf ∧ AstS w D body vb ∧ AstS w D rest vr
  | .blk ln l, v => ∃ b vl, v = .pointer (some ⟨b, 0, none⟩) ∧ D b ∧
      w.heap[b]? = some (.cells #[.int .i64 ln, vl] 153 (0, 0)) ∧ AstS w D l vl
  | .lnil, v => ∃ a c, v = .slice a 0 c
  | .cons h t, v => ∃ b off n c vh, v = .slice (some ⟨b, off, none⟩) (n + 1) c ∧ D b ∧ w.cell? ⟨b, off, none⟩ = some vh ∧
      AstS w D h vh ∧ AstS w D t (.slice (some ⟨b, off + 1, none⟩) n (c - 1))

theorem AstS.keep {w w' : World} {D D' : Nat → Prop} (hk : ∀ b, D b → w'.heap[b]? = w.heap[b]? ∧ D' b) : ∀ {a : Ast} {v : Value}, AstS w D a v → AstS w' D' a v := by
  intro a
  induction a with
  | nil => intro v h; exact h
  | exp k t ln l r ihl ihr =>
    rintro v ⟨b, vl, vr, rfl, hd, hc, hl, hr⟩
    exact ⟨b, vl, vr, rfl, (hk b hd).2, by rw [(hk b hd).1]; exact hc, ihl hl, ihr hr⟩
  | stm k t e f body rest link ih1 ih2 ih3 ih4 =>
    rintro v ⟨b, ve, vf, vb, vr, rfl, hd, hc, g1, g2, g3, g4⟩
    exact ⟨b, ve, vf, vb, vr, rfl, (hk b hd).2, by rw [(hk b hd).1]; exact hc, ih1 g1, ih2 g2, ih3 g3, ih4 g4⟩
  | blk ln l ih =>
    rintro v ⟨b, vl, rfl, hd, hc, hl⟩
    exact ⟨b, vl, rfl, (hk b hd).2, by rw [(hk b hd).1]; exact hc, ih hl⟩
  | lnil => intro v h; exact h
  | cons h t ih1 ih2 =>
    rintro v ⟨b, off, n, c, vh, rfl, hd, hc, g1, g2⟩
    exact ⟨b, off, n, c, vh, rfl, (hk b hd).2, by rw [cell_same (hk b hd).1]; exact hc, ih1 g1, ih2 g2⟩

theorem AstAt.toS {w : World} {lo hi : Nat} {D : Nat → Prop} (hD : ∀ b, lo ≤ b → b < hi → D b) : ∀ {a : Ast} {v : Value}, AstAt w lo hi a v → AstS w D a v := by
  intro a
  induction a with
  | nil => intro v h; exact h
  | exp k t ln l r ihl ihr =>
    rintro v ⟨b, vl, vr, rfl, h1, h2, hc, hl, hr⟩
    exact ⟨b, vl, vr, rfl, hD b h1 h2, hc, ihl hl, ihr hr⟩
  | stm k t e f body rest link ih1 ih2 ih3 ih4 =>
    rintro v ⟨b, ve, vf, vb, vr, rfl, h1, h2, hc, g1, g2, g3, g4⟩
    exact ⟨b, ve, vf, vb, vr, rfl, hD b h1 h2, hc, ih1 g1, ih2 g2, ih3 g3, ih4 g4⟩
  | blk ln l ih =>
    rintro v ⟨b, vl, rfl, h1, h2, hc, hl⟩
    exact ⟨b, vl, rfl, hD b h1 h2, hc, ih hl⟩
  | lnil => intro v h; exact h
  | cons h t ih1 ih2 =>
    rintro v ⟨b, off, n, c, vh, rfl, h1, h2, hc, g1, g2⟩
    exact ⟨b, off, n, c, vh, rfl, hD b h1 h2, hc, ih1 g1, ih2 g2⟩

theorem AstS.toAt {w : World} {lo hi : Nat} {D : Nat → Prop} (hD : ∀ b, D b → lo ≤ b ∧ b < hi) : ∀ {a : Ast} {v : Value}, AstS w D a v → AstAt w lo hi a v := by
  intro a
  induction a with
  | nil => intro v h; exact h
  | exp k t ln l r ihl ihr =>
    rintro v ⟨b, vl, vr, rfl, hd, hc, hl, hr⟩
    exact ⟨b, vl, vr, rfl, (hD b hd).1, (hD b hd).2, hc, ihl hl, ihr hr⟩
  | stm k t e f body rest link ih1 ih2 ih3 ih4 =>
    rintro v ⟨b, ve, vf, vb, vr, rfl, hd, hc, g1, g2, g3, g4⟩
    exact ⟨b, ve, vf, vb, vr, rfl, (hD b hd).1, (hD b hd).2, hc, ih1 g1, ih2 g2, ih3 g3, ih4 g4⟩
  | blk ln l ih =>
    rintro v ⟨b, vl, rfl, hd, hc, hl⟩
    exact ⟨b, vl, rfl, (hD b hd).1, (hD b hd).2, hc, ih hl⟩
  | lnil => intro v h; exact h
  | cons h t ih1 ih2 =>
    rintro v ⟨b, off, n, c, vh, rfl, hd, hc, g1, g2⟩
    exact ⟨b, off, n, c, vh, rfl, (hD b hd).1, (hD b hd).2, hc, ih1 g1, ih2 g2⟩

/-- A list of trees under construction: the slice v; all in blocks from lo on. -/
def AccAt (w : World) (lo : Nat) (v : Value) (acc : List Ast) : Prop := ∃ vals : List Value, w.ownsRow lo 119 1 v acc.length vals ∧ vals.length = acc.length ∧
  ∀ (i : Nat) (x : Ast), acc[i]? = some x → ∃ u : Value, vals[i]? = some u ∧ AstS w (fun b => lo ≤ b ∧ b < w.heap.size ∧ v.ownBlock ≠ some b) x u

theorem AccAt.nil (w : World) (lo : Nat) : AccAt w lo (.slice none 0 0) [] := ⟨[], World.ownsRow_nil w lo 119 1, rfl, fun i x h => by simp at h⟩

theorem AccAt.keep {w w' : World} {lo : Nat} {v : Value} {acc : List Ast} (h : AccAt w lo v acc) (hs : w.heap.size ≤ w'.heap.size) (hk : ∀ b, lo ≤ b → b < w.heap.size → w'.heap[b]? = w.heap[b]?) : AccAt w' lo v acc := by
  obtain ⟨vals, ho, hl, he⟩ := h
  refine ⟨vals, own_keep ho (fun g hg => hk g (own_block ho hg).1 (own_block ho hg).2) (Nat.le_refl _), hl, fun i x hx => ?_⟩
  obtain ⟨u, hu, hS⟩ := he i x hx
  exact ⟨u, hu, hS.keep fun b ⟨h1, h2, h3⟩ => ⟨hk b h1 h2, h1, by omega, h3⟩⟩

/-- One tree more: made between w and w1; then appended. -/
theorem AccAt.snoc {w w1 w2 : World} {lo r : Nat} {v v' u : Value} {acc : List Ast} {x : Ast} {vals : List Value} (ho : w.ownsRow lo 119 1 v acc.length vals) (hl : vals.length = acc.length)
    (he : ∀ (i : Nat) (x : Ast), acc[i]? = some x → ∃ u : Value, vals[i]? = some u ∧ AstS w (fun b => lo ≤ b ∧ b < w.heap.size ∧ v.ownBlock ≠ some b) x u) (hk : Kp r w w1) (hr : r < lo) (hlo : lo ≤ w.heap.size)
    (hx : AstAt w1 w.heap.size w1.heap.size x u) (o : Obj) (hown : w2.ownsRow lo 119 1 v' (acc.length + 1) (vals ++ [u])) (hg : (w1.alloc o).grownBy w2 v.ownBlock)
    (hb : ∀ g, v'.ownBlock = some g → v.ownBlock = some g ∨ w1.heap.size + 1 ≤ g) : AccAt w2 lo v' (acc ++ [x]) := by
  have hsz := hk.size
  have hg2 := hg.size
  rw [szA] at hg2
  have step : ∀ b, b < w1.heap.size → v.ownBlock ≠ some b → w2.heap[b]? = w1.heap[b]? := fun b h1 h2 => by
    rw [hg.block b (by rw [szA]; omega) (fun e => h2 e.symm), heapA, if_neg (by omega)]
  have other : ∀ b, b < w1.heap.size → v.ownBlock ≠ some b → v'.ownBlock ≠ some b := fun b h1 h2 e => by
    rcases hb b e with e | e
    · exact h2 e
    · omega
  refine ⟨vals ++ [u], by rw [List.length_append]; exact hown, by simp [hl], fun i y hy => ?_⟩
  by_cases hi : i < acc.length
  · rw [List.getElem?_append_left hi] at hy
    obtain ⟨u', hu', hS⟩ := he i y hy
    refine ⟨u', by rw [List.getElem?_append_left (by omega)]; exact hu', hS.keep fun b ⟨h1, h2, h3⟩ => ⟨?_, h1, by omega, other b (by omega) h3⟩⟩
    rw [step b (by omega) h3, hk.block b h2 (by omega)]
  · have hia : i = acc.length := by
      by_cases h : i = acc.length
      · exact h
      · rw [List.getElem?_append_right (by omega), List.getElem?_eq_none (by simp; omega)] at hy; cases hy
    subst hia
    simp only [List.getElem?_append_right (Nat.le_refl _), Nat.sub_self, List.getElem?_cons_zero, Option.some.injEq] at hy
    subst hy
    refine ⟨u, by rw [List.getElem?_append_right (by omega), hl]; simp, ?_⟩
    refine (hx.toS (D := fun b => w.heap.size ≤ b ∧ b < w1.heap.size) (fun b h1 h2 => ⟨h1, h2⟩)).keep fun b ⟨h1, h2⟩ => ?_
    have h3 : v.ownBlock ≠ some b := fun e => by have := (own_block ho e).2; omega
    exact ⟨step b h2 h3, by omega, by omega, other b h2 h3⟩

theorem AstAt.of_cells {w : World} {lo hi g : Nat} (h1 : lo ≤ g) (h2 : g < hi) : ∀ (acc : List Ast) (off c : Nat), (∀ (i : Nat) (x : Ast), acc[i]? = some x → ∃ u : Value, w.cell? ⟨g, off + i, none⟩ = some u ∧ AstAt w lo hi x u) →
    AstAt w lo hi (ofList acc) (.slice (some ⟨g, off, none⟩) acc.length c)
  | [], off, c, _ => ⟨_, _, rfl⟩
  | x :: acc, off, c, h => by
    obtain ⟨u, hu, hx⟩ := h 0 x rfl
    refine ⟨g, off, acc.length, c, u, rfl, h1, h2, by simpa using hu, hx, ?_⟩
    exact AstAt.of_cells h1 h2 acc (off + 1) (c - 1) fun i y hy => by
      obtain ⟨u', hu', hy'⟩ := h (i + 1) y (by simpa using hy)
      exact ⟨u', by rw [show off + 1 + i = off + (i + 1) by omega]; exact hu', hy'⟩

/-- The list when it is done. -/
theorem AccAt.done {w : World} {lo : Nat} {v : Value} {acc : List Ast} (h : AccAt w lo v acc) : AstAt w lo w.heap.size (ofList acc) v := by
  obtain ⟨vals, ho, hl, he⟩ := h
  rcases ho.2 with ⟨rfl, hn⟩ | ⟨g, cap, cur, rfl, hbg, hh, hnc, hcm, hcs, htake⟩
  · have : acc = [] := List.eq_nil_of_length_eq_zero hn
    subst this
    exact ⟨none, 0, rfl⟩
  · have hb := own_block ho (g := g) rfl
    refine AstAt.of_cells hb.1 hb.2 acc 0 cap fun i x hx => ?_
    obtain ⟨u, hu, hS⟩ := he i x hx
    refine ⟨u, ?_, hS.toAt fun b h => ⟨h.1, h.2.1⟩⟩
    have := ho.cells (g := g) rfl i u hu
    unfold Addr.add at this
    split at this
    · rename_i h0; subst h0; simpa using this
    · simpa using this

theorem Kp.grown {r : Nat} {w a w' : World} {row : Option Nat} (h : Kp r w a) (hg : a.grownBy w' row) (hrow : ∀ g, row = some g → w.heap.size ≤ g) : Kp r w w' :=
  ⟨hg.os.trans h.os, hg.tape.trans h.tape, hg.output.trans h.output, Nat.le_trans h.size hg.size, fun k hk hr => by
    rw [hg.block k (Nat.lt_of_lt_of_le hk h.size) (fun e => by have := hrow k e.symm; omega)]; exact h.block k hk hr⟩

end Go.Proofs.YtgjgaeloehfhiaaGreatDoor
end
