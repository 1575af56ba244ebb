/- The generator: labels land, are jumped to, are settled. -/
import Derived.Test.YtgjgaeloehfhiaaGreatDoorM07
namespace Go.Proofs.YtgjgaeloehfhiaaGreatDoor
open Go.RowKit

/-- The maker in memory, the values of its lists named. -/
structure MkV (w : World) (base mb ub : Nat) (bs : List Nat) (vo : Value) (vs : List Value) (S : GSt) : Prop where
  cell : w.heap[mb]? = some (.cells #[.pointer (some ⟨ub, 0, none⟩), vo, labPtr bs (some S.trap), labPtr bs S.head, labPtr bs S.tail] 159 (0, 0))
  low : base ≤ mb
  row : w.ownsRow base 53 4 vo S.out.length (S.out.flatMap Ins.cells)
  labs : LabsAt w base bs vs S.labs
theorem MkAt.v {w : World} {base mb ub : Nat} {bs : List Nat} {S : GSt} (h : MkAt w base mb ub bs S) : ∃ vo vs, MkV w base mb ub bs vo vs S := let ⟨vo, vs, a, b, c, d⟩ := h; ⟨vo, vs, a, b, c, d⟩
theorem MkV.at_ {w : World} {base mb ub : Nat} {bs : List Nat} {vo : Value} {vs : List Value} {S : GSt} (h : MkV w base mb ub bs vo vs S) : MkAt w base mb ub bs S := ⟨vo, vs, h.cell, h.low, h.row, h.labs⟩

theorem own_form {w : World} {base e size n : Nat} {v : Value} {xs : List Value} (h : w.ownsRow base e size v n xs) : ∃ a c, v = .slice a n c := by
  rcases h.2 with ⟨rfl, rfl⟩ | ⟨g, cap, _, rfl, _⟩
  · exact ⟨_, _, rfl⟩
  · exact ⟨_, _, rfl⟩

theorem heap_lt {w : World} {k : Nat} {o : Obj} (h : w.heap[k]? = some o) : k < w.heap.size := (Array.getElem?_eq_some_iff.1 h).1
theorem getD_set_eq {α : Type} (l : List α) (i : Nat) (x d : α) (h : i < l.length) : (l.set i x).getD i d = x := by simp [List.getD_eq_getElem?_getD, h]
theorem getD_set_ne' {α : Type} (l : List α) (i j : Nat) (x d : α) (h : i ≠ j) : (l.set i x).getD j d = l.getD j d := by simp [List.getD_eq_getElem?_getD, List.getElem?_set_ne h]

theorem map_getD (l : List Nat) (k : Nat) (h : k < l.length) : (l.map fun (n : Nat) => Value.int .i64 (n : Int))[k]? = some (.int .i64 (l.getD k 0 : Nat)) := by
  simp [List.getD_eq_getElem?_getD, h]

/-- A label is laid. -/
theorem MkV.landed {w : World} {base mb ub : Nat} {bs : List Nat} {vo : Value} {vs : List Value} {S : GSt} (h : MkV w base mb ub bs vo vs S) (i : Nat) (hi : i < S.labs.length) :
    MkV (w.setCell ⟨bs.getD i 0, 0, none⟩ (.int .i64 S.out.length)) base mb ub bs vo vs (S.land i) ∧ GFr base w (w.setCell ⟨bs.getD i 0, 0, none⟩ (.int .i64 S.out.length)) := by
  obtain ⟨h1, h2⟩ := h.labs.blk i hi
  have other : ∀ (k : Nat) (c : Array Value) (T : TypeId), w.heap[k]? = some (.cells c T (0, 0)) → T ≠ 157 → (w.setCell ⟨bs.getD i 0, 0, none⟩ (.int .i64 S.out.length)).heap[k]? = w.heap[k]? := fun k c T hk hT => by
    rw [heapS, if_neg]
    rintro rfl
    rw [h2] at hk
    simp at hk
    exact hT hk.2.symm
  refine ⟨⟨(other _ _ _ h.cell (by decide)).trans h.cell, h.low, own_keep h.row (fun g hg => ?_) (Nat.le_refl _), ⟨by simp [GSt.land, h.labs.bl], by simp [GSt.land, h.labs.vl], fun j hj => ?_, fun j hj => ?_, fun j k hj hk => ?_⟩⟩, ⟨Below.setCell (Below.refl _ _) h1 _, fun k c T hk hT => other k c T hk (by rcases hT with rfl | rfl <;> decide)⟩⟩
  · obtain ⟨cur, hc⟩ := own_heap h.row hg
    exact other _ _ _ hc (by decide)
  · simp only [GSt.land, List.length_set] at hj ⊢
    by_cases hij : i = j
    · subst hij
      rw [getD_set_eq _ _ _ _ hi]
      refine ⟨h1, ?_⟩
      rw [heapS, if_pos rfl, h2]; rfl
    · rw [getD_set_ne' _ _ _ _ _ hij]
      obtain ⟨q1, q2⟩ := h.labs.blk j hj
      refine ⟨q1, ?_⟩
      rw [heapS, if_neg (h.labs.inj j i hj hi (Ne.symm hij)).1, q2]
  · simp only [GSt.land, List.length_set] at hj ⊢
    have hr := h.labs.row j hj
    have hr2 : (w.setCell ⟨bs.getD i 0, 0, none⟩ (.int .i64 S.out.length)).ownsRow base 3 1 (vs.getD j default) (S.labs.getD j default).2.length ((S.labs.getD j default).2.map fun (n : Nat) => Value.int .i64 (n : Int)) :=
      own_keep hr (fun g hg => by
        obtain ⟨cur, hc⟩ := own_heap hr hg
        exact other _ _ _ hc (by decide)) (Nat.le_refl _)
    by_cases hij : i = j
    · subst hij
      rw [getD_set_eq _ _ _ _ hi]
      exact hr2
    · rw [getD_set_ne' _ _ _ _ _ hij]
      exact hr2
  · simp only [GSt.land, List.length_set] at hj hk
    exact h.labs.inj j k hj hk

/-- A jump is marked: its number appended to the label's list. -/
theorem MkV.marked {w w3 : World} {base mb ub : Nat} {bs : List Nat} {vo : Value} {vs : List Value} {S : GSt} (h : MkV w base mb ub bs vo vs S) (i : Nat) (hi : i < S.labs.length) (o : Obj) (v' : Value)
    (hrow : w3.ownsRow base 3 1 v' ((S.labs.getD i default).2.length + 1) (((S.labs.getD i default).2.map fun (n : Nat) => Value.int .i64 (n : Int)) ++ [.int .i64 S.out.length]))
    (hg : (w.alloc o).grownBy w3 (vs.getD i default).ownBlock) (hb : ∀ g, v'.ownBlock = some g → (vs.getD i default).ownBlock = some g ∨ w.heap.size + 1 ≤ g) :
    MkV (w3.setCell ⟨bs.getD i 0, 1, none⟩ v') base mb ub bs vo (vs.set i v') (S.mark i) ∧ GFr base w (w3.setCell ⟨bs.getD i 0, 1, none⟩ v') ∧
      w3.heap[bs.getD i 0]? = some (.cells #[.int .i64 (S.labs.getD i default).1, vs.getD i default] 157 (0, 0)) ∧ w3.heap[mb]? = w.heap[mb]? := by
  obtain ⟨h1, h2⟩ := h.labs.blk i hi
  have hri := h.labs.row i hi
  have hiv : i < vs.length := by rw [h.labs.vl]; exact hi
  have hsz := hg.size
  rw [szA] at hsz
  have same : ∀ k, k < w.heap.size → (vs.getD i default).ownBlock ≠ some k → w3.heap[k]? = w.heap[k]? := fun k hk hne => by
    rw [hg.block k (by rw [szA]; omega) (fun e => hne e.symm), heapA, if_neg (by omega)]
  have typ : ∀ (k : Nat) (c : Array Value) (T : TypeId), w.heap[k]? = some (.cells c T (0, 0)) → T ≠ 3 → w3.heap[k]? = w.heap[k]? := fun k c T hk hT => same k (heap_lt hk) (fun e => by
    obtain ⟨cur, hc⟩ := own_heap hri e
    rw [hc] at hk
    simp at hk
    exact hT hk.2.symm)
  have g2 := (typ _ _ _ h2 (by decide)).trans h2
  have other : ∀ (k : Nat) (c : Array Value) (T : TypeId), w.heap[k]? = some (.cells c T (0, 0)) → T ≠ 157 → T ≠ 3 → (w3.setCell ⟨bs.getD i 0, 1, none⟩ v').heap[k]? = w.heap[k]? := fun k c T hk hT hT3 => by
    rw [heapS, if_neg, typ k c T hk hT3]
    rintro rfl
    rw [h2] at hk
    simp at hk
    exact hT hk.2.symm
  refine ⟨⟨(other _ _ _ h.cell (by decide) (by decide)).trans h.cell, h.low, own_keep h.row (fun g hg => ?_) (Nat.le_refl _), ⟨by simp [GSt.mark, h.labs.bl], by simp [GSt.mark, h.labs.vl], fun j hj => ?_, fun j hj => ?_, fun j k hj hk hjk => ?_⟩⟩, ?_, g2, typ _ _ _ h.cell (by decide)⟩
  · obtain ⟨cur, hc⟩ := own_heap h.row hg
    exact other _ _ _ hc (by decide) (by decide)
  · simp only [GSt.mark, List.length_set] at hj ⊢
    by_cases hij : i = j
    · subst hij
      rw [getD_set_eq _ _ _ _ hi, getD_set_eq _ _ _ _ hiv]
      refine ⟨h1, ?_⟩
      rw [heapS, if_pos rfl, g2]; rfl
    · rw [getD_set_ne' _ _ _ _ _ hij, getD_set_ne' _ _ _ _ _ hij]
      obtain ⟨q1, q2⟩ := h.labs.blk j hj
      refine ⟨q1, ?_⟩
      rw [heapS, if_neg (h.labs.inj j i hj hi (Ne.symm hij)).1, typ _ _ _ q2 (by decide), q2]
  · simp only [GSt.mark, List.length_set] at hj ⊢
    by_cases hij : i = j
    · subst hij
      rw [getD_set_eq _ _ _ _ hi, getD_set_eq _ _ _ _ hiv]
      simp only [List.length_append, List.length_cons, List.length_nil, List.map_append, List.map_cons, List.map_nil]
      refine own_keep hrow (fun g hg => ?_) (Nat.le_refl _)
      rw [heapS, if_neg]
      rintro rfl
      obtain ⟨cur, hc⟩ := own_heap hrow hg
      rw [g2] at hc
      simp at hc
    · rw [getD_set_ne' _ _ _ _ _ hij, getD_set_ne' _ _ _ _ _ hij]
      have hr := h.labs.row j hj
      refine own_keep hr (fun g hg => ?_) (Nat.le_refl _)
      obtain ⟨cur, hc⟩ := own_heap hr hg
      rw [heapS, if_neg, same g (heap_lt hc)]
      · intro e
        exact (h.labs.inj i j hi hj hij).2 g e hg
      · rintro rfl
        rw [h2] at hc
        simp at hc
  · simp only [GSt.mark, List.length_set] at hj hk
    refine ⟨(h.labs.inj j k hj hk hjk).1, fun g hgj hgk => ?_⟩
    have lt : ∀ j, j < S.labs.length → ∀ g, (vs.getD j default).ownBlock = some g → g < w.heap.size := fun j hj g hg => (own_block (h.labs.row j hj) hg).2
    by_cases hij : i = j
    · subst hij
      rw [getD_set_eq _ _ _ _ hiv] at hgj
      rw [getD_set_ne' _ _ _ _ _ hjk] at hgk
      rcases hb g hgj with e | e
      · exact (h.labs.inj i k hj hk hjk).2 g e hgk
      · have := lt k hk g hgk; omega
    · rw [getD_set_ne' _ _ _ _ _ hij] at hgj
      by_cases hik : i = k
      · subst hik
        rw [getD_set_eq _ _ _ _ hiv] at hgk
        rcases hb g hgk with e | e
        · exact (h.labs.inj i j hk hj hij).2 g e hgj
        · have := lt j hj g hgj; omega
      · rw [getD_set_ne' _ _ _ _ _ hik] at hgk
        exact (h.labs.inj j k hj hk hjk).2 g hgj hgk
  · refine ⟨Below.setCell (p := ⟨bs.getD i 0, 1, none⟩) (Below.grown (((Ext.refl w).alloc o).belowB (Nat.le_trans h1 (Nat.le_of_lt (heap_lt h2)))) hg (by rw [szA]; have := heap_lt h2; omega) (fun g hg => (own_block hri hg).1)) h1 v', fun k c T hk hT => other k c T hk (by rcases hT with rfl | rfl <;> decide) (by rcases hT with rfl | rfl <;> decide)⟩

theorem flat_set : ∀ (o : List Ins) (j : Nat) (imm : Int), j < o.length → (o.flatMap Ins.cells).set (j * 4 + 3) (.int .i64 imm) = (o.set j { o.getD j default with imm := imm }).flatMap Ins.cells
  | [], j, imm, h => by simp at h
  | x :: o, 0, imm, _ => by simp [Ins.cells]
  | x :: o, j + 1, imm, h => by
    have ih := flat_set o j imm (by simpa using h)
    rw [show (j + 1) * 4 + 3 = j * 4 + 3 + 4 by omega]
    simp only [List.flatMap_cons, Ins.cells, List.cons_append, List.nil_append, List.set_cons_succ, List.getD_cons_succ]
    rw [ih]
theorem flat_imm : ∀ (o : List Ins) (j : Nat), j < o.length → (o.flatMap Ins.cells)[j * 4 + 3]? = some (.int .i64 (o.getD j default).imm)
  | [], j, h => by simp at h
  | x :: o, 0, _ => by simp [Ins.cells]
  | x :: o, j + 1, h => by
    have ih := flat_imm o j (by simpa using h)
    rw [show (j + 1) * 4 + 3 = j * 4 + 3 + 4 by omega]
    simp only [List.flatMap_cons, Ins.cells, List.cons_append, List.nil_append, List.getElem?_cons_succ, List.getD_cons_succ]
    exact ih

theorem MkV.drew {w : World} {base mb ub : Nat} {bs : List Nat} {vo : Value} {vs : List Value} {S : GSt} (h : MkV w base mb ub bs vo vs S) : MkV w.drew base mb ub bs vo vs S :=
  ⟨h.cell, h.low, h.row, ⟨h.labs.bl, h.labs.vl, h.labs.blk, h.labs.row, h.labs.inj⟩⟩

/-- A jump's distance is laid. -/
theorem MkV.fixed {w : World} {base mb ub : Nat} {bs : List Nat} {g cap : Nat} {vs : List Value} {S : GSt} (h : MkV w base mb ub bs (.slice (some ⟨g, 0, none⟩) S.out.length cap) vs S) (j : Nat) (hj : j < S.out.length) (imm : Int) :
    MkV (w.setCell ⟨g, j * 4 + 3, none⟩ (.int .i64 imm)) base mb ub bs (.slice (some ⟨g, 0, none⟩) S.out.length cap) vs { S with out := S.out.set j { S.out.getD j default with imm := imm } } ∧ GFr base w (w.setCell ⟨g, j * 4 + 3, none⟩ (.int .i64 imm)) := by
  obtain ⟨cur, hc⟩ := own_heap h.row (g := g) rfl
  have hgb := (own_block h.row (g := g) rfl).1
  have other : ∀ (k : Nat) (c : Array Value) (T : TypeId), w.heap[k]? = some (.cells c T (0, 0)) → T ≠ 53 → (w.setCell ⟨g, j * 4 + 3, none⟩ (.int .i64 imm)).heap[k]? = w.heap[k]? := fun k c T hk hT => by
    rw [heapS, if_neg]
    rintro rfl
    rw [hc] at hk
    simp at hk
    exact hT hk.2.symm
  refine ⟨⟨(other _ _ _ h.cell (by decide)).trans h.cell, h.low, ?_, h.labs.keep fun k c _ hk => ?_⟩, ⟨Below.setCell (Below.refl _ _) hgb _, fun k c T hk hT => other k c T hk (by rcases hT with rfl | rfl <;> decide)⟩⟩
  · have := (h.row.stored (j * 4 + 3) (.int .i64 imm)).1
    rw [flat_set _ _ _ hj] at this
    simpa only [List.length_set] using this
  · rcases hk with hk | hk
    · exact other _ _ _ hk (by decide)
    · exact other _ _ _ hk (by decide)

set_option maxRecDepth 100000 in
set_option maxHeartbeats 1600000 in
theorem land_any {base mb ub : Nat} {bs : List Nat} {S : GSt} (i : Nat) (w : World) (h : MkAt w base mb ub bs S) (hi : i < S.labs.length) (_ : S.out.length ≤ 100000000) :
    Calls Tryz.prog 60 #[.pointer (some ⟨mb, 0, none⟩), .pointer (some ⟨bs.getD i 0, 0, none⟩)] w fun e w' => e = .returned (.tuple #[]) ∧ MkAt w' base mb ub bs (S.land i) ∧ GFr base w w' := by
  obtain ⟨vo, vs, hv⟩ := h.v
  obtain ⟨a, c, rfl⟩ := own_form hv.row
  have hv2 := hv.landed i hi
  obtain ⟨h1, h2⟩ := hv.labs.blk i hi
  obtain ⟨c0, -, -⟩ := cells_of_heap hv.cell
  obtain ⟨d0, d1, -⟩ := cells_of_heap h2
  have c1 := c0 1
  have d0 := d0 0
  have d1 := d1 0
  simp only [List.getElem?_toArray, List.getElem?_cons_zero, List.getElem?_cons_succ] at c1 d0
  have HV := Lib.hid hv2
  clear hv hv2 h h2 c0
  generalize bs.getD i 0 = lb at *
  go_enter Tryz.func60, Tryz.ntmps60
  go_wp2_with fail
  go_end0
  exact ⟨rfl, HV.out.1.at_, HV.out.2⟩

set_option maxRecDepth 100000 in
set_option maxHeartbeats 3200000 in
theorem jump_any {base mb ub : Nat} {bs : List Nat} {S : GSt} (op a : Int) (i : Nat) (w : World) (h : MkAt w base mb ub bs S) (hi : i < S.labs.length) (hlen : S.out.length ≤ 100000000) (hj : (S.labs.getD i default).2.length ≤ 100000000) :
    Calls Tryz.prog 144 #[.pointer (some ⟨mb, 0, none⟩), .int .i64 op, .int .i64 a, .pointer (some ⟨bs.getD i 0, 0, none⟩)] w fun e w' => e = .returned (.tuple #[]) ∧ MkAt w' base mb ub bs (S.jump op a i) ∧ GFr base w w' := by
  obtain ⟨vo, vs, hv⟩ := h.v
  obtain ⟨ao, co, rfl⟩ := own_form hv.row
  obtain ⟨h1, h2⟩ := hv.labs.blk i hi
  have hrow := hv.labs.row i hi
  obtain ⟨aj, cj, hvj⟩ := own_form hrow
  obtain ⟨c0, -, hmb⟩ := cells_of_heap hv.cell
  obtain ⟨d0, d1, hlb⟩ := cells_of_heap h2
  have c1 := c0 1
  have e0 := d0 1
  have e1 := d1 1
  have hbs : base ≤ w.heap.size := Nat.le_trans h1 (Nat.le_of_lt hlb)
  simp only [List.getElem?_toArray, List.getElem?_cons_zero, List.getElem?_cons_succ] at c1 e0
  clear d0 d1
  have HV := Lib.hid hv
  have HROW := Lib.hid hrow
  obtain ⟨i0, hi0, hz0, hz1, hz2⟩ := info_parts info3
  have hneb : bs.getD i 0 ≠ mb := fun e => by rw [e, hv.cell] at h2; simp at h2
  have hput := fun w' (hm : MkAt w' base mb ub bs (S.mark i)) => put_any op a 0 0 w' hm hlen
  have HPUT := Lib.hid hput
  have hmk := fun w3 v' => hv.marked (w3 := w3) i hi (.cells #[.int .i64 S.out.length] 3) v'
  have HMK := Lib.hid hmk
  clear hv h h2 c0 hrow hput hmk
  generalize bs.getD i 0 = lb at *
  generalize vs.getD i default = vj at *
  generalize S.labs.getD i default = La at *
  obtain ⟨at_, js⟩ := La
  simp only at *
  subst hvj
  have hS : ∀ w', Ext w w' → w'.cell? ⟨lb, 1, none⟩ = some (.slice aj js.length cj) ∧ w'.cell? ⟨mb, 1, none⟩ = some (.slice ao S.out.length co) ∧ w'.frozen? ⟨lb, 1, none⟩ = false := fun w' hE => ⟨(hE.cell _ _ hlb).trans e0, (hE.cell _ _ hmb).trans c1, (hE.frozen _ _ hlb).trans e1⟩
  go_enter Tryz.func144, Tryz.ntmps144
  go_wp2_with fail
  refine wp_region_plan (fun w' => w'.cell? ⟨lb, 1, none⟩ = some (.slice aj js.length cj) ∧ w'.cell? ⟨mb, 1, none⟩ = some (.slice ao S.out.length co) ∧ w'.frozen? ⟨lb, 1, none⟩ = false)
    [(0, true), (1, true), (2, true), (3, true), (4, true), (5, true), (6, true), (7, true), (8, true), (9, true), (10, false), (11, false), (12, true), (13, true), (14, false)] true (by kernel_rfl) (by kernel_rfl) (fun c a d v w h => by cases d <;> exact h) (hS _ (Ext.refl w).drew) ?_
  iterate 10 (refine ⟨_, ?_, rfl, Or.inl ⟨by rfl, ?_⟩, ?_⟩; rotate_left; (· intro w' hSw; (try dsimp only at hSw); go_simp; (try with_reducible rfl)); simp only [Act.put, List.setIfInBounds_toArray, List.set_cons_zero, List.set_cons_succ, List.getElem_toArray, List.getElem_cons_zero, List.getElem_cons_succ])
  refine wpPlan_act rfl (by rfl) (fun K hK => ?_)
  go_simp
  have hE1 : Ext w ((w.drew).alloc (.cells #[.int .i64 S.out.length] 3)) := ((Ext.refl w).drew).alloc _
  refine hK _ _ (fun _ => hS _ hE1) ?_
  clear hK K
  try simp only [Act.put, List.setIfInBounds_toArray, List.set_cons_zero, List.set_cons_succ]
  refine wpPlan_act rfl (by rfl) (fun K hK => ?_)
  refine wp_own_append (.tmp 12) (.tmp 18) 35 rfl base 3 i0 (.int .i64 0) 1 8 Tryz.underlying35 hi0 hz0 hz1 hz2 rfl (by decide) (.slice aj js.length cj) js.length (js.map fun (n : Nat) => Value.int .i64 (n : Int)) rfl
    (own_keep HROW.out (fun g hg => hE1.block g (own_block HROW.out hg).2) (Nat.le_refl _))
    ⟨w.heap.size, 0, none⟩ 1 1 [.int .i64 S.out.length] rfl rfl ?_ ?_ (by simp only [maxLen]; omega) (by omega) (Nat.le_trans hbs hE1.size) ?_
  · intro j u hu
    rcases j with _ | j
    · simp only [List.getElem?_cons_zero, Option.some.injEq] at hu
      subst hu
      simp [Addr.add, go_sem]
    · simp at hu
  · intro u hu
    simp only [List.mem_singleton] at hu
    subst hu
    rfl
  intro v' w3 hrow3 hg3 hb3
  obtain ⟨g3, cap3, rfl⟩ := own_slc hrow3 (by omega)
  obtain ⟨hm1, hm2, hm3, hm4⟩ := HMK.out w3 _ hrow3 ⟨hg3.os, hg3.tape, hg3.output, hg3.size, hg3.block⟩ (fun g hg => by have := hb3 g hg; simpa only [szD, szA] using this)
  obtain ⟨q0, q1, q2⟩ := cells_of_heap hm3
  have q0 := q0 1
  have q1 := q1 1
  simp only [List.getElem?_toArray, List.getElem?_cons_zero, List.getElem?_cons_succ] at q0
  have q3 := (cell_same (w := w) (w' := w3) (b := mb) (o := 1) hm4).trans c1
  have HM1 := Lib.hid hm1
  have HM2 := Lib.hid hm2
  refine hK _ _ (fun _ => ⟨q0, q3, q1⟩) ?_
  clear hK K hrow3 hg3 hb3 hm1 hm2 hm3 hm4
  try simp only [Act.put, List.setIfInBounds_toArray]
  iterate 2 (refine ⟨_, ?_, rfl, Or.inl ⟨by rfl, ?_⟩, ?_⟩; rotate_left; (· intro w' hSw; (try dsimp only at hSw); go_simp; (try with_reducible rfl)); simp only [Act.put, List.setIfInBounds_toArray, List.set_cons_zero, List.set_cons_succ, List.getElem_toArray, List.getElem_cons_zero, List.getElem_cons_succ])
  refine wpPlan_act rfl (by rfl) (fun K hK => ?_)
  go_simp
  refine hK _ _ (fun h => absurd rfl h) ⟨rfl, ?_⟩
  clear hK K
  try simp only [Act.put, List.setIfInBounds_toArray, List.set_cons_zero, List.set_cons_succ]
  generalize w3.setCell ⟨lb, 1, none⟩ (.slice (some ⟨g3, 0, none⟩) (js.length + 1) cap3) = w4 at *
  go_wp2_with fail
  refine (HPUT.out w4 HM1.out.at_).mono ?_
  rintro e w5 ⟨rfl, h5, h6⟩
  go_wp2_with fail
  go_end0
  exact ⟨rfl, h5, HM2.out.trans h6⟩

/-- What is known of the labels: each jump's number is that of an instruction that is out. -/
def GSt.ok (S : GSt) : Prop := ∀ i, i < S.labs.length → (S.labs.getD i default).1 ≤ S.out.length ∧ (S.labs.getD i default).2.length ≤ S.out.length ∧ ∀ j ∈ (S.labs.getD i default).2, j < S.out.length

set_option maxRecDepth 100000 in
set_option maxHeartbeats 3200000 in
theorem settle_any {base mb ub : Nat} {bs : List Nat} {S : GSt} (i : Nat) (w : World) (h : MkAt w base mb ub bs S) (hi : i < S.labs.length) (hlen : S.out.length ≤ 100000000) (hok : S.ok) :
    Calls Tryz.prog 61 #[.pointer (some ⟨mb, 0, none⟩), .pointer (some ⟨bs.getD i 0, 0, none⟩)] w fun e w' => e = .returned (.tuple #[]) ∧ MkAt w' base mb ub bs (S.settle i) ∧ GFr base w w' := by
  obtain ⟨vo, vs, hv⟩ := h.v
  obtain ⟨hat, hjl, hjs⟩ := hok i hi
  have hrow := hv.labs.row i hi
  obtain ⟨aj, cj, hvj⟩ := own_form hrow
  obtain ⟨h1, h2⟩ := hv.labs.blk i hi
  have cells : ∀ (wr : World) (o : List Ins), MkV wr base mb ub bs vo vs { S with out := o } → wr.cell? ⟨bs.getD i 0, 0, none⟩ = some (.int .i64 (S.labs.getD i default).1) ∧ wr.cell? ⟨bs.getD i 0, 1, none⟩ = some (.slice aj (S.labs.getD i default).2.length cj) ∧ wr.cell? ⟨mb, 1, none⟩ = some vo := fun wr o hr => by
    obtain ⟨-, q2⟩ := hr.labs.blk i hi
    refine ⟨by rw [cell_of_heap q2]; rfl, by rw [cell_of_heap q2, hvj]; rfl, by rw [cell_of_heap hr.cell]; rfl⟩
  have jcell : ∀ (wr : World) (o : List Ins), MkV wr base mb ub bs vo vs { S with out := o } → ∀ k, k < (S.labs.getD i default).2.length → ∃ g, aj = some ⟨g, 0, none⟩ ∧ wr.cell? ⟨g, k, none⟩ = some (.int .i64 ((S.labs.getD i default).2.getD k 0 : Nat)) := fun wr o hr k hk => by
    have hrr := hr.labs.row i hi
    obtain ⟨g, cap, hg⟩ := own_slc hrr (by show 0 < (S.labs.getD i default).2.length; omega)
    rw [hvj] at hg
    have ha : aj = some ⟨g, 0, none⟩ := by injection hg
    refine ⟨g, ha, ?_⟩
    have hrr2 : wr.ownsRow base 3 1 (.slice (some ⟨g, 0, none⟩) (S.labs.getD i default).2.length cj) (S.labs.getD i default).2.length ((S.labs.getD i default).2.map fun (n : Nat) => Value.int .i64 (n : Int)) := by rw [← ha, ← hvj]; exact hrr
    rw [hrr2.cellAt k (by omega)]
    exact map_getD _ _ hk
  have HV := Lib.hid hv
  have HREL : Hid (settleL (S.labs.getD i default).1 ((S.labs.getD i default).2.drop 0) S.out = settleL (S.labs.getD i default).1 (S.labs.getD i default).2 S.out) := rfl
  have hres : S.settle i = { S with out := settleL (S.labs.getD i default).1 (S.labs.getD i default).2 S.out } := rfl
  rw [hres]
  generalize settleL (S.labs.getD i default).1 (S.labs.getD i default).2 S.out = R at *
  have hc0 := cells w S.out hv
  have HCELLS := Lib.hid cells
  have HJ := Lib.hid jcell
  have HJS := Lib.hid hjs
  clear hv h h2 hrow hvj cells jcell hjs hres hok
  generalize bs.getD i 0 = lb at *
  generalize S.labs.getD i default = La at *
  obtain ⟨at_, js⟩ := La
  simp only at *
  obtain ⟨k0, k1, k2⟩ := hc0
  go_enter Tryz.func61, Tryz.ntmps61
  go_wp2_with fail
  go_loopw [11] (fun v wr => ∃ (k : Nat) (o : List Ins), k ≤ js.length ∧ v = .int .i64 k ∧ o.length = S.out.length ∧ Hid (MkV wr base mb ub bs vo vs { S with out := o }) ∧ GFr base w wr ∧ Hid (settleL at_ (js.drop k) o = R)) (fun v _ => js.length - (intOf v).toNat)
  case atStart => exact ⟨0, S.out, by omega, rfl, rfl, HV, GFr.refl _ _, HREL⟩
  case round =>
    obtain ⟨k, o, hk, rfl, hol, HMV, hB, HR⟩ := hrel
    clear HREL HV
    by_cases hlt : k < js.length
    · have hR := HR.out
      rw [List.drop_eq_getElem_cons hlt] at hR
      simp only [settleL] at hR
      have hjm := HJS.out js[k] (List.getElem_mem hlt)
      obtain ⟨gj, haj, hcj⟩ := HJ.out wr o HMV.out k hlt
      have hgd : js.getD k 0 = js[k] := by simp [List.getD_eq_getElem?_getD, hlt]
      rw [hgd] at hcj
      generalize js[k] = j at *
      obtain ⟨m0, m1, m2⟩ := HCELLS.out wr o HMV.out
      obtain ⟨g, cap, hvo⟩ := own_slc HMV.out.row (by show 0 < o.length; omega)
      subst hvo
      subst haj
      simp only at *
      have hjo : j < o.length := by omega
      have hfix := MkV.fixed (S := { S with out := o }) HMV.out j hjo ((at_ : Int) - j - 1)
      have hcell := HMV.out.row.cellAt (j * 4 + 3) (by show j * 4 + 3 < o.length * 4; omega)
      rw [flat_imm _ _ hjo] at hcell
      have hfro := HMV.out.row.frozenAt (j * 4 + 3)
      have HF := Lib.hid hfix
      have HRR := Lib.hid hR
      have HB := Lib.hid hB
      clear hfix hR HR hB hgd
      try simp only at hcell hfro
      have HOL := Lib.hid (fun (o2 : List Ins) (h : o2 = o) => (show o2.length = S.out.length from h ▸ hol))
      rw [hol] at *
      generalize (o.getD j default).imm = im at *
      have hw1 : IntKind.i64.wrap ((at_ : Int) - (j : Int)) = (at_ : Int) - (j : Int) := IntWalk.i64_in _ (by omega)
      have hw2 : IntKind.i64.wrap ((at_ : Int) - (j : Int) - 1) = (at_ : Int) - (j : Int) - 1 := IntWalk.i64_in _ (by omega)
      have hjS : (j : Int) < (S.out.length : Int) := by omega
      have hj0 : (0 : Int) ≤ (j : Int) := by omega
      go_wp2_with fail
      refine wp_region_plan (fun w' => w'.cell? ⟨lb, 0, none⟩ = some (.int .i64 at_) ∧ w'.cell? ⟨mb, 1, none⟩ = some (.slice (some ⟨g, 0, none⟩) S.out.length cap) ∧ w'.cell? ⟨g, j * 4 + 3, none⟩ = some (.int .i64 im) ∧ w'.frozen? ⟨g, j * 4 + 3, none⟩ = false)
        [(0, true), (1, true), (2, true), (3, true), (4, true), (5, true), (6, true), (7, true), (8, true), (9, true), (10, true), (11, true), (12, true), (13, true), (14, false)] true (by kernel_rfl) (by kernel_rfl) (fun c a d v w h => by cases d <;> exact h) ⟨m0, m2, hcell, hfro⟩ ?_
      iterate 14 (refine ⟨_, ?_, rfl, Or.inl ⟨by rfl, ?_⟩, ?_⟩; rotate_left; (· intro w' hSw; (try dsimp only at hSw); go_simp; (try with_reducible rfl)); simp only [Act.put, List.setIfInBounds_toArray, List.set_cons_zero, List.set_cons_succ, List.getElem_toArray, List.getElem_cons_zero, List.getElem_cons_succ])
      refine wpPlan_act rfl (by rfl) (fun K hK => ?_)
      go_simp
      refine hK _ _ (fun h => absurd rfl h) ⟨rfl, ?_⟩
      clear hK K
      try simp only [Act.put, List.setIfInBounds_toArray, List.set_cons_zero, List.set_cons_succ]
      go_wp2_with fail
      all_goals exact ⟨⟨k + 1, _, by omega, by go_num, by rw [List.length_set]; exact HOL.out o rfl, Lib.hid HF.out.1.drew, HB.out.trans ⟨HF.out.2.below.drew, HF.out.2.typ⟩, HRR⟩, by simp [intOf]; omega⟩
    · have hR := HR.out
      rw [List.drop_eq_nil_of_le (by omega)] at hR
      have hRo : o = R := hR
      subst hRo
      have HB := Lib.hid hB
      clear hR HR hB
      go_wp2_with fail
      go_end0
      exact ⟨rfl, HMV.out.at_, HB.out⟩
end Go.Proofs.YtgjgaeloehfhiaaGreatDoor
