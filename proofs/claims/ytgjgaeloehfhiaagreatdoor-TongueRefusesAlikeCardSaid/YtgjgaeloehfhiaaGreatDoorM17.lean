/- The reader's blocks. -/
import Derived.Test.YtgjgaeloehfhiaaGreatDoorM16
import Derived.Test.YtgjgaeloehfhiaaGreatDoorM06
namespace Go.Proofs.YtgjgaeloehfhiaaGreatDoor
open Go.RowKit

theorem RdAt.same {w w' : World} {rb lb cap : Nat} {toks : List Tok} {at_ : Nat} (h : RdAt w rb lb cap toks at_) (hs : w.heap.size ≤ w'.heap.size) (h1 : w'.heap[rb]? = w.heap[rb]?) (h2 : w'.heap[lb]? = w.heap[lb]?) : RdAt w' rb lb cap toks at_ := by
  obtain ⟨h0, h1', f1, sr, sl, ne, arr, len, al, fin⟩ := h
  refine ⟨(cell_same h1).trans h0, (cell_same h1).trans h1', ?_, by omega, by omega, ne, ?_, len, al, fin⟩
  · rw [World.frozen?_of_block (w := w) h1]; exact f1
  · intro i hi
    obtain ⟨a, b, c, d⟩ := arr i hi
    exact ⟨(cell_same h2).trans a, (cell_same h2).trans b, (cell_same h2).trans c, (cell_same h2).trans d⟩

/-- The state of the loop over a block's statements. -/
def StmtsRel (toks : List Tok) (f rb lb cap bb : Nat) (line : Nat) (w : World) (R : PRes) (wr : World) : Prop :=
  ∃ (g : Nat) (acc : List Ast) (a : Nat) (v : Value), g ≤ f ∧ pr toks g (.stmts acc) a = R ∧ 3 * (toks.length - a) + 3 ≤ g ∧ acc.length ≤ a ∧ Kp rb w wr ∧ RdAt wr rb lb cap toks a ∧
    wr.heap[bb]? = some (.cells #[.int .i64 line, v] 153 (0, 0)) ∧ AccAt wr (bb + 1) v acc

/-- The type of statements' pointers in the tables. -/
theorem info119 : (Tryz.prog.info? 119).map (fun i => (i.zero, i.size, i.bytes)) = some (some (.pointer none), 1, 8) := by kernel_rfl

set_option maxRecDepth 100000 in
set_option maxHeartbeats 2000000 in
theorem block_reads {toks : List Tok} {f : Nat} (ih : ∀ g, g ≤ f → Reads toks g .stmt) (w : World) (rb lb cap at_ N : Nat) (h : RdAt w rb lb cap toks at_) (hG : Gl N w) (hN : N ≤ rb) (hf : need toks.length at_ .block ≤ f + 1) :
    Calls Tryz.prog 99 #[.pointer (some ⟨rb, 0, none⟩)] w (PPost w rb lb cap toks (pr toks (f + 1) .block at_)) := by
  have hal := h.at_lt
  have sr0 := h.sr
  have sl := h.sl
  simp only [need] at hf
  have hspec : pr toks (f + 1) .block at_ = (
    if isB (toks.getD at_ default) ⟨#[123]⟩ then
      match pr toks f (.stmts []) (at_ + 1) with
      | .error n => .error n
      | .ok (l, a) => .ok (.blk (toks.getD at_ default).line l, a)
    else .error (toks.getD at_ default).line) := rfl
  generalize pr toks (f + 1) .block at_ = R at *
  have HS := Lib.hid hspec
  have HG := Lib.hid hG
  have HI := Lib.hid ih
  have HK0 := Lib.hid (Kp.refl rb w)
  have HR0 := Lib.hid h
  clear hspec ih hG h
  have hfl := run_field69_2
  cases hif : isB (toks.getD at_ default) ⟨#[123]⟩ with
  | false =>
    have hw := want_bad _ _ HR0.out hif
    replace HS := HS.out
    rw [if_neg (by rw [hif]; simp)] at HS
    replace HS := Lib.hid HS
    clear hif
    go_enter Tryz.func99, Tryz.ntmps99
    go_wp2_with fail
    rw [HS.out]
    refine (hw).mono ?_
    rintro e wz ⟨rfl, hb⟩
    exact ⟨rfl, rfl, HK0.out.ext hb⟩
  | true =>
    have hw := want_ok _ _ HR0.out hif
    replace HS := HS.out
    rw [if_pos hif] at HS
    replace HS := Lib.hid HS
    clear hif
    generalize (toks.getD at_ default) = t at *
    obtain ⟨kind, text, line, num⟩ := t
    go_enter Tryz.func99, Tryz.ntmps99
    go_wp2_with fail
    refine (hw).mono ?_
    rintro e w1 ⟨rfl, hk, hr⟩
    have x1 := hk.size
    try simp only [szS, szA, szD] at x1
    have HK1 := Lib.hid (HK0.out.trans hk)
    have HR1 := Lib.hid hr
    clear hk hr
    go_wp2_with fail
    have HREL : Hid (StmtsRel toks f rb lb cap w1.heap.size line w (pr toks f (.stmts []) (at_ + 1)) (w1.alloc (.cells #[.int .i64 line, .slice none 0 0] 153))) :=
      ⟨f, [], at_ + 1, _, Nat.le_refl f, rfl, by omega, Nat.zero_le _, HK1.out.alloc _, HR1.out.alloc _, by rw [heapA, if_pos rfl], AccAt.nil _ _⟩
    generalize pr toks f (.stmts []) (at_ + 1) = R2 at *
    go_loopw [9] (fun _ wr => StmtsRel toks f rb lb cap w1.heap.size line w R2 wr) (fun _ wr => rdLeft rb toks.length wr)
    case atStart => exact HREL.out
    case round =>
      obtain ⟨g, acc, a, v, hg, hR, hneed, hacc, hk, hr, hc, ha⟩ := hrel
      obtain ⟨g, rfl⟩ : ∃ m, g = m + 1 := ⟨g - 1, by omega⟩
      have hal2 := hr.at_lt
      have hq := is_any wr ⟨#[125]⟩ hr
      have sk := hk.size
      have srb := hr.sr
      have slb := hr.sl
      have hsb : w1.heap.size < wr.heap.size := (cells_of_heap hc).2.2
      have HK := Lib.hid hk
      have HRr := Lib.hid hr
      have HC := Lib.hid hc
      have HA := Lib.hid ha
      clear hk hr hc ha HREL
      cases hi : isB (toks.getD a default) ⟨#[125]⟩ with
      | true =>
        rw [hi] at hq
        have HR2 : Hid (R2 = .ok (ofList acc, a + 1)) := by
          show _ = _
          rw [← hR]; simp only [pr]; rw [hi]; rfl
        clear hR
        go_wp2_with fail
        refine hq.mono ?_
        rintro e w3 ⟨rfl, hb⟩
        go_wp2_with fail
        refine (want_ok _ _ (HRr.out.keep hb) hi).mono ?_
        rintro e w4 ⟨rfl, hk4, hr4⟩
        have x3 := hb.size
        have x4 := hk4.size
        go_wp2_with fail
        go_ret
        rw [HS.out, HR2.out]
        refine ⟨_, rfl, (HK.out.ext hb).trans hk4, hr4, w1.heap.size, v, rfl, by omega, by omega, ?_, ?_⟩
        · rw [hk4.heap _ (by omega) (by omega), hb.block _ (by omega), HC.out]
        · exact ((HA.out.done.kp (hb.kp rb) (by omega) (by omega)).kp hk4 (by omega) (by omega)).wide (by omega) (by omega)
      | false =>
        rw [hi] at hq
        have HRR := Lib.hid hR
        clear hR
        go_wp2_with fail
        refine hq.mono ?_
        rintro e w3 ⟨rfl, hb⟩
        have x3 := hb.size
        go_wp2_with fail
        have hst := HI.out g (by omega) w3.drew rb lb cap a N (HRr.out.keep hb).drew ((HG.out.kp hN (HK.out.ext hb)).ext ((Ext.refl _).drew)) hN (by simp only [need]; omega)
        simp only [fnOf, argsOf] at hst
        have HC3 : Hid (w3.heap[w1.heap.size]? = some (.cells #[.int .i64 line, v] 153 (0, 0))) := by
          show _ = _
          rw [hb.block _ (by omega), HC.out]
        have hc0 := cell_of_heap (o := 0) HC3.out
        have hc1 := cell_of_heap (o := 1) HC3.out
        simp only [List.getElem?_toArray, List.getElem?_cons_zero, List.getElem?_cons_succ] at hc0 hc1
        cases hx : pr toks g .stmt a with
        | error ln =>
          have HR2 : Hid (R2 = .error ln) := by
            show _ = _
            rw [← HRR.out]; simp only [pr]; rw [hi, if_neg (by simp), hx]
          rw [hx] at hst
          have HX := Lib.hid hst
          clear hst hx
          refine wp_region_plan (fun w' => w'.cell? ⟨w1.heap.size, 0, none⟩ = some (.int .i64 line) ∧ w'.cell? ⟨w1.heap.size, 1, none⟩ = some v)
            [(0, true), (1, true), (2, true), (3, true), (4, true), (5, true), (6, false)] false (by kernel_rfl) (by kernel_rfl) (fun c a d v w h => by cases d <;> exact h) ⟨hc0, hc1⟩ ?_
          iterate 6 (refine ⟨_, ?_, rfl, Or.inl ⟨by rfl, ?_⟩, ?_⟩; rotate_left; (· intro w' hSw; (try dsimp only at hSw); go_simp; (try with_reducible rfl)); simp only [Act.put, List.setIfInBounds_toArray])
          refine wpPlan_act rfl (by rfl) (fun K hK => ?_)
          go_simp
          refine HX.out.mono ?_
          rintro e' w6 ⟨rfl, hk6⟩
          refine ⟨rfl, ?_⟩
          show PPost w rb lb cap toks R _ _
          rw [HS.out, HR2.out]
          exact ⟨rfl, (HK.out.ext hb).trans (((Ext.refl _).drew.kp rb).trans hk6)⟩
        | ok r =>
          obtain ⟨x, b⟩ := r
          have HR2 : Hid (pr toks g (.stmts (acc ++ [x])) b = R2) := by
            show _ = _
            rw [← HRR.out]; simp only [pr]; rw [hi, if_neg (by simp), hx]
          have hxx := pr_isStm toks g _ _ _ _ hx
          have hxl := pr_least toks g _ _ _ _ hx
          simp only [What.least] at hxl
          rw [hx] at hst
          have HX := Lib.hid hst
          clear hst hx
          obtain ⟨vals, hrow, hvl, hve⟩ := HA.out.keep (w' := w3.drew) (by rw [szD]; omega) (fun b h1 h2 => hb.block b h2)
          have HROW := Lib.hid hrow
          have HVE := Lib.hid hve
          have hbase : w1.heap.size + 1 ≤ w3.heap.size := by omega
          clear hrow hve
          refine wp_region_plan (fun w' => w'.cell? ⟨w1.heap.size, 0, none⟩ = some (.int .i64 line) ∧ w'.cell? ⟨w1.heap.size, 1, none⟩ = some v)
            [(0, true), (1, true), (2, true), (3, true), (4, true), (5, true), (6, false), (7, false), (8, false), (9, true), (10, true), (11, false)] true (by kernel_rfl) (by kernel_rfl) (fun c a d v w h => by cases d <;> exact h) ⟨hc0, hc1⟩ ?_
          iterate 6 (refine ⟨_, ?_, rfl, Or.inl ⟨by rfl, ?_⟩, ?_⟩; rotate_left; (· intro w' hSw; (try dsimp only at hSw); go_simp; (try with_reducible rfl)); simp only [Act.put, List.setIfInBounds_toArray])
          refine wpPlan_act rfl (by rfl) (fun K hK => ?_)
          go_simp
          refine HX.out.mono ?_
          rintro e' w6 ⟨v6, rfl, hk6, hr6, ha6⟩
          obtain ⟨b6, rfl, b61, b62⟩ := ha6.ptr_stm hxx
          have x6 := hk6.size
          simp only [szD] at x6 b61 ha6
          have d0 := (hk6.cell _ _ (by rw [szD]; omega) (by omega)).trans hc0
          have d1 := (hk6.cell _ _ (by rw [szD]; omega) (by omega)).trans hc1
          refine hK _ _ (fun _ => ⟨d0, d1⟩) ?_
          clear hK K
          try simp only [Act.put, List.setIfInBounds_toArray, List.set_cons_zero, List.set_cons_succ]
          refine wpPlan_act rfl (by rfl) (fun K hK => ?_)
          go_simp
          have HBX := (Ext.refl w6).alloc (.cells #[.pointer (some ⟨b6, 0, none⟩)] 119)
          refine hK _ _ (fun _ => ⟨(HBX.cell _ _ (by omega)).trans d0, (HBX.cell _ _ (by omega)).trans d1⟩) ?_
          clear hK K
          try simp only [Act.put, List.setIfInBounds_toArray, List.set_cons_zero, List.set_cons_succ]
          refine wpPlan_act rfl (by rfl) (fun K hK => ?_)
          obtain ⟨i0, hi0, hz0, hz1, hz2⟩ := info_parts info119
          refine wp_own_append (.tmp 16) (.tmp 19) 65 rfl (w1.heap.size + 1) 119 i0 (.pointer none) 1 8 Tryz.underlying65 hi0 hz0 hz1 hz2 rfl (by decide) v acc.length vals rfl
            (own_keep HROW.out (fun g hg => by
              have := own_block HROW.out hg
              rw [HBX.block _ (by rw [szD] at this; omega), hk6.block g (by omega) (by omega)]) (Nat.le_refl _))
            ⟨w6.heap.size, 0, none⟩ 1 1 [.pointer (some ⟨b6, 0, none⟩)] rfl rfl ?_ ?_ (by have := HRr.out.len; simp only [maxLen]; omega) (by have := HRr.out.len; omega) (by rw [szA]; omega) ?_
          · intro j u hu
            rcases j with _ | j
            · simp only [List.getElem?_cons_zero, Option.some.injEq] at hu
              subst hu
              simp [Addr.add, go_sem]
            · simp at hu
          · intro u hu
            simp only [List.mem_singleton] at hu
            subst hu
            rfl
          intro v' w7 hrow7 hg7 hb7
          have x7 := hg7.size
          simp only [szA] at x7 hb7
          have hne : v.ownBlock ≠ some w1.heap.size := fun e => by have := (own_block HROW.out e).1; omega
          have HC6 : Hid (w6.heap[w1.heap.size]? = some (.cells #[.int .i64 line, v] 153 (0, 0))) := by
            show _ = _
            rw [hk6.heap _ (by rw [szD]; omega) (by omega), heapD, HC3.out]
          have HC7 : Hid (w7.heap[w1.heap.size]? = some (.cells #[.int .i64 line, v] 153 (0, 0))) := by
            show _ = _
            rw [hg7.block _ (by rw [szA]; omega) (fun e => hne e.symm), HBX.block _ (by omega), HC6.out]
          have f0 := cell_of_heap (o := 0) HC7.out
          have f1 := cell_of_heap (o := 1) HC7.out
          simp only [List.getElem?_toArray, List.getElem?_cons_zero, List.getElem?_cons_succ] at f0 f1
          obtain ⟨-, f3, f4⟩ := cells_of_heap HC7.out
          have HG7 := Lib.hid hg7
          have HACC := Lib.hid (AccAt.snoc HROW.out hvl HVE.out hk6 (by omega) (by rw [szD]; omega) ha6 _ hrow7 hg7 hb7)
          have hv' : ∃ g cap, v' = .slice (some ⟨g, 0, none⟩) (acc.length + 1) cap := by
            rcases hrow7.2 with ⟨_, h0⟩ | ⟨g, cap, _, h0, _⟩
            · omega
            · exact ⟨g, cap, h0⟩
          obtain ⟨g', cap', rfl⟩ := hv'
          refine hK _ _ (fun _ => ⟨f0, f1⟩) ?_
          clear hK K hrow7 hg7 hb7
          try simp only [Act.put, List.setIfInBounds_toArray]
          iterate 2 (refine ⟨_, ?_, rfl, Or.inl ⟨by rfl, ?_⟩, ?_⟩; rotate_left; (· intro w' hSw; (try dsimp only at hSw); go_simp; (try with_reducible rfl)); simp only [Act.put])
          refine wpPlan_act rfl (by rfl) (fun K hK => ?_)
          go_simp
          refine hK _ _ (fun h => absurd rfl h) ⟨rfl, ?_⟩
          clear hK K
          try simp only [Act.put, List.setIfInBounds_toArray, List.set_cons_zero, List.set_cons_succ]
          go_wp2_with fail
          have hrow_ge : ∀ g, v.ownBlock = some g → w.heap.size ≤ g := fun g hg => by have := (own_block HROW.out hg).1; omega
          have HK7 : Kp rb w w7 := (((HK.out.ext hb).trans (((Ext.refl _).drew.kp rb).trans hk6)).alloc _).grown HG7.out hrow_ge
          have nrb : v.ownBlock ≠ some rb := fun e => by have := (own_block HROW.out e).1; omega
          have nlb : v.ownBlock ≠ some lb := fun e => by have := (own_block HROW.out e).1; omega
          have srb6 := hr6.sr
          have slb6 := hr6.sl
          have HR7 : RdAt w7 rb lb cap toks b := (hr6.alloc _).same (by rw [szA]; omega) (HG7.out.block _ (by rw [szA]; omega) (fun e => nrb e.symm)) (HG7.out.block _ (by rw [szA]; omega) (fun e => nlb e.symm))
          refine ⟨⟨g, acc ++ [x], b, .slice (some ⟨g', 0, none⟩) (acc.length + 1) cap', by omega, HR2.out, by omega, by rw [List.length_append]; simp only [List.length_cons, List.length_nil]; omega, HK7.setCell (.inr (by simp only []; omega)) _, HR7.setCell (by simp only []; omega) (by simp only []; omega) _, ?_, ?_⟩, ?_⟩
          · rw [heapS, if_pos rfl, HC7.out]; rfl
          · exact HACC.out.keep (by rw [szS]; omega) (fun b h1 h2 => by rw [heapS, if_neg (by omega)])
          · rw [rdLeft_eq (HR7.setCell (by simp only []; omega) (by simp only []; omega) _), rdLeft_eq HRr.out]
            omega
end Go.Proofs.YtgjgaeloehfhiaaGreatDoor
