/- The assembler: a listing gives the words back. -/
import Derived.Test.YtgjgaeloehfhiaaGreatDoorM45
import Derived.Laws.AppendOwnNone
import Derived.WalkMore
namespace Go.Proofs.YtgjgaeloehfhiaaGreatDoor
open Go.RowKit

/-- A map without keys. -/
def NoKeys (w : World) (b : Nat) : Prop := ∃ D : DataW Unit, w.ownsMap Tryz.prog 9 (fun _ => none) b 0 D ∧ ∀ key, D.atKey (.string key) .nil = .nil
theorem NoKeys.made (w : World) : NoKeys (w.alloc (.map #[] 0)) w.heap.size := ⟨_, World.ownsMap_made w _ _ _, fun _ => rfl⟩
theorem NoKeys.keep {w w' : World} {b : Nat} (h : NoKeys w b) (hE : Ext w w') : NoKeys w' b := by
  obtain ⟨D, hD, h3⟩ := h
  have hlt := hD.lt
  obtain ⟨es, clock, h1, h2⟩ := hD
  exact ⟨D, ⟨es, clock, (hE.block b hlt).trans h1, h2⟩, h3⟩
theorem zero3 (w : World) : (zeroValue 3).run Tryz.prog w = .ok (.int .i64 0) w := by kernel_rfl
theorem NoKeys.look {w : World} {b : Nat} (h : NoKeys w b) : (Instr.lookup 84 (.map (some b)) (.string ⟨#[]⟩) true).run Tryz.prog w = .ok (.tuple #[.int .i64 0, .bool false]) w := by
  obtain ⟨D, ⟨es, clock, hb, F, _, rfl⟩, hD⟩ := h
  have hkey : keyOf Tryz.prog 9 (.string ⟨#[]⟩) = some (.string []) := WideMaps.keyOf_string_mk Tryz.underlying9 (Nat.zero_le _)
  rcases Maps.fit_look true keyed9 Tryz.underlying84 (zero3 w) hb F hkey with ⟨hrun, _, hat⟩ | ⟨e0, y, _, _, hrun, hRv, hat, _⟩
  · rw [hrun]; rfl
  · cases hRv

/-- The first loop: lines read. -/
structure L1Rel (w1 wr : World) (ls : List LN) (k : Nat) (v : Value) : Prop where
  ext : Ext w1 wr
  row : wr.ownsRow w1.heap.size 87 11 v k ((ls.take k).flatMap LN.cells)

set_option maxRecDepth 100000 in
set_option maxHeartbeats 3200000 in
theorem assemble_any {N : Nat} (code : List Ins) (hg : ∀ i ∈ code, i.good) (hl : code.length ≤ 384) (w : World) (hG : Gl N w) (hN : N ≤ w.heap.size) :
    Calls Tryz.prog 11 #[.string ⟨(textF code).toArray⟩] w fun e w' => ∃ v, e = .returned (.tuple #[v, .int .i64 0, .int .i64 0]) ∧ Ext w w' ∧ w'.ownsRow w.heap.size 41 1 v code.length (code.map fun i => wordV i.word) := by
  have hsz : (⟨(textF code).toArray⟩ : ByteArray).size ≤ 11520 := by
    have := text_len code hg
    rw [ByteArray.size_mk', List.size_toArray]
    omega
  have htl := text_lines code hg
  generalize (⟨(textF code).toArray⟩ : ByteArray) = s at *
  have hPl : (code.map bodyF ++ [[]]).length = code.length + 1 := by simp
  have hE0 : Ext w (w.alloc (.map #[] 0)) := (Ext.refl w).alloc _
  have hsc := split_call s 10 (code.map bodyF ++ [[]]) (by omega) htl.2 (by rw [htl.1, hPl]) (w.alloc (.map #[] 0)) (hG.ext hE0)
  rw [hPl] at hsc
  have hll := lines_len code
  have hpa := fun k hk p hp w' hG' hN' => parse_at (N := N) code hg k hk p hp w' hG' hN'
  have HSC := Lib.hid hsc
  have HG := Lib.hid hG
  have HGD := Lib.hid hg
  have HPA := Lib.hid hpa
  have HPL := Lib.hid hPl
  have HLL := Lib.hid hll
  clear hsc hG hg htl hpa hPl hll
  have hd : decide ((s.size : Int) > 16384) = false := by simp; omega
  have hd2 : decide (16384 < (s.size : Int)) = false := by simp; omega
  have hmm := @run_makeMap Tryz.prog
  go_enter Tryz.func11, Tryz.ntmps11
  go_wp2_with fail
  go_step3
  go_wp2_with fail
  refine HSC.out.mono ?_
  rintro e w1 ⟨ps, rfl, hps, hpc, hE1, hsz1⟩
  have x1 := hE1.size
  rw [szA] at x1
  have HE1 := Lib.hid (hE0.trans hE1)
  have HPS := Lib.hid hps
  have HPC := Lib.hid hpc
  have hpg := heap_lt hpc
  generalize hgp : (w.alloc (.map #[] 0)).heap.size = gp at *
  clear HSC hps hpc hE1 hsz1 hE0 hgp
  obtain ⟨i0, hi0, hz0, hz1, hz2⟩ := info_parts info87
  go_wp2_with fail
  go_loopw [5, 26] (fun v i wr => ∃ k : Nat, k ≤ code.length + 1 ∧ i = .int .i64 k ∧ Hid (L1Rel w1 wr (linesF code) k v)) (fun _ i _ => code.length + 1 - (intOf i).toNat)
  case atStart => exact ⟨0, by omega, rfl, Lib.hid ⟨Ext.refl w1, World.ownsRow_nil _ _ _ _⟩⟩
  case round =>
    obtain ⟨k, hk, rfl, HR⟩ := hrel
    by_cases hlt : k < code.length + 1
    · obtain ⟨p, hp1, hp2⟩ := piece_at (pieces_keep HPC.out HR.out.ext) HPS.out k (by rw [HPL.out]; exact hlt)
      have xr := HR.out.ext.size
      have hcall := HPA.out k (by rw [HLL.out]; exact hlt) p hp2 wr (HG.out.ext (HE1.out.trans HR.out.ext)) (by omega)
      have htake : ((linesF code).take (k + 1)).flatMap LN.cells = ((linesF code).take k).flatMap LN.cells ++ LN.cells ((linesF code).getD k lnE) := by
        have hkl : k < (linesF code).length := by rw [HLL.out]; exact hlt
        rw [List.take_succ_eq_append_getElem hkl, List.flatMap_append]
        simp [List.getD_eq_getElem?_getD, hkl]
      generalize (linesF code).getD k lnE = ln at *
      obtain ⟨wd, op, a, b, imm⟩ := ln
      unfold LN.arr at hcall
      simp only at hcall
      obtain ⟨va, vc, rfl⟩ := own_form HR.out.row
      have HCALL := Lib.hid hcall
      have HTAKE := Lib.hid htake
      clear hcall htake hp2
      go_wp2_with fail
      refine HCALL.out.mono ?_
      rintro e w2 ⟨rfl, hE2⟩
      have HE2 := Lib.hid hE2
      have x2 := hE2.size
      clear hE2 HCALL hp1
      have CONT : ∀ {o : Oper} {rest : List Oper} {ops : Array Oper} {A : Act} {Q : Exit → Act → World → Prop}, o.guard = none → o.op = .call { callee := .builtin .append, args := #[.tmp 40, .tmp 42], argTypes := #[83, 83] } → A.eval (.tmp 40) = .slice va k vc → A.eval (.tmp 42) = .slice (some ⟨w2.heap.size + 1, 0, none⟩) 1 1 →
          (∀ v' w3, Hid (L1Rel w1 w3 (linesF code) (k + 1) v') → wpList Tryz.prog ops Q rest (A.put o.dst v') w3) →
          wpList Tryz.prog ops Q (o :: rest) A ((w2.alloc (.cells #[.string ⟨#[]⟩, .bool false, .int .i64 (wd : Int), .string ⟨#[]⟩, .bool false, .int .i64 (op : Int), .int .i64 (a : Int), .int .i64 (b : Int), .int .i64 imm, .int .u32 0, .bool false] 87)).alloc (.cells #[.string ⟨#[]⟩, .bool false, .int .i64 (wd : Int), .string ⟨#[]⟩, .bool false, .int .i64 (op : Int), .int .i64 (a : Int), .int .i64 (b : Int), .int .i64 imm, .int .u32 0, .bool false] 87)) := by
        intro o rest ops A Q hgd ho e1 e2 kk
        have hE3 := HE2.out.trans (((Ext.refl w2).alloc (.cells #[.string ⟨#[]⟩, .bool false, .int .i64 (wd : Int), .string ⟨#[]⟩, .bool false, .int .i64 (op : Int), .int .i64 (a : Int), .int .i64 (b : Int), .int .i64 imm, .int .u32 0, .bool false] 87)).alloc (.cells #[.string ⟨#[]⟩, .bool false, .int .i64 (wd : Int), .string ⟨#[]⟩, .bool false, .int .i64 (op : Int), .int .i64 (a : Int), .int .i64 (b : Int), .int .i64 imm, .int .u32 0, .bool false] 87))
        refine wpList_own_append hgd (.tmp 40) (.tmp 42) 83 ho w1.heap.size 87 i0 _ 11 96 Tryz.underlying83 hi0 hz0 hz1 hz2 rfl (by decide) (.slice va k vc) k (((linesF code).take k).flatMap LN.cells) e1 (own_keep HR.out.row (fun q hq => hE3.block q (own_block HR.out.row hq).2) (Nat.le_refl _))
          ⟨w2.heap.size + 1, 0, none⟩ 1 1 (LN.cells (wd, op, a, b, imm)) e2 rfl ?_ ?_ (by simp only [maxLen]; omega) (by omega) (by simp only [szA]; omega) ?_
        · intro j u hu
          rw [add0, cell_of_heap (c := LN.arr (wd, op, a, b, imm)) (T := 87) (f := (0, 0)) (by rw [heapA, if_pos (by rw [szA])]; rfl)]
          rw [← hu]
          exact (Array.getElem?_toList ..).symm
        · intro u hu
          simp only [LN.cells, LN.arr, List.mem_cons, List.not_mem_nil, or_false] at hu
          rcases hu with rfl | rfl | rfl | rfl | rfl | rfl | rfl | rfl | rfl | rfl | rfl <;> rfl
        intro v' w3 hrow3 hg3 hb3
        exact kk v' w3 (Lib.hid ⟨grown_ext HR.out.ext hE3 hg3 (fun q hq => (own_block HR.out.row hq).1), by rw [HTAKE.out]; exact hrow3⟩)
      go_wp2_with (refine CONT rfl rfl rfl rfl ?_; intro v' w3 HR3)
      all_goals exact ⟨⟨k + 1, by omega, by go_num, HR3⟩, by simp [intOf]; omega⟩
    · obtain rfl : k = code.length + 1 := by omega
      rw [show ((code.length + 1 : Nat) : Int) = (code.length : Int) + 1 from by omega]
      have hrow := HR.out.row
      rw [← HLL.out, List.take_length, HLL.out] at hrow
      obtain ⟨gl, cl, rfl⟩ := own_slc hrow (by omega)
      have hgl := (own_block hrow (g := gl) rfl).2
      have HROW := Lib.hid hrow
      have HEr := Lib.hid HR.out.ext
      have hxr := HR.out.ext.size
      clear hrow HR
      have hE3 : Ext wr (wr.alloc (.map #[] 0)) := (Ext.refl wr).alloc _
      have hnk := NoKeys.made wr
      have HE3 := Lib.hid hE3
      have HNK := Lib.hid hnk
      have hcell : ∀ k, k < code.length + 1 → ∀ j, j < 11 → wr.cell? ⟨gl, k * 11 + j, none⟩ = (LN.cells ((linesF code).getD k lnE))[j]? := fun k hk j hj =>
        (World.ownsRow.cellAt HROW.out (k * 11 + j) (by omega)).trans (flat_ln _ k j (by rw [HLL.out]; exact hk) hj)
      have HCELL := Lib.hid hcell
      clear hE3 hnk hcell
      go_wp2_with fail
      go_step3
      go_wp2_with fail
      generalize (wr.alloc (.map #[] 0)) = W3 at *
      obtain ⟨wA, rfl⟩ : ∃ wA, wA = wr := ⟨_, rfl⟩
      go_loopw [11, 48] (fun t i wr => ∃ k m : Nat, k ≤ code.length + 1 ∧ m ≤ k ∧ i = .int .i64 k ∧ t = .int .i64 m ∧ Hid (Ext W3 wr)) (fun _ i _ => code.length + 1 - (intOf i).toNat)
      case atStart => exact ⟨0, 0, by omega, by omega, rfl, rfl, Lib.hid (Ext.refl _)⟩
      case round =>
        obtain ⟨k, m, hk, hmk, rfl, rfl, HR⟩ := hrel
        by_cases hlt : k < code.length + 1
        · have hcl := HCELL.out k hlt
          have hwd : ((linesF code).getD k lnE).1 ≤ 1 := by
            rcases Nat.lt_or_ge k code.length with h | h
            · rw [lines_at code k h]; exact Nat.le_refl _
            · obtain rfl : k = code.length := by omega
              rw [lines_last]; exact Nat.zero_le _
          generalize (linesF code).getD k lnE = ln at *
          obtain ⟨wd, op, a, b, imm⟩ := ln
          simp only at hwd
          have hW := (HE3.out.trans HR.out)
          have hcl := fun j hj => (hW.cell gl (k * 11 + j) hgl).trans (hcl j hj)
          have q0 := hcl 0 (by omega)
          have q1 := hcl 1 (by omega)
          have q2 := hcl 2 (by omega)
          have q3 := hcl 3 (by omega)
          have q4 := hcl 4 (by omega)
          have q5 := hcl 5 (by omega)
          have q6 := hcl 6 (by omega)
          have q7 := hcl 7 (by omega)
          have q8 := hcl 8 (by omega)
          have q9 := hcl 9 (by omega)
          have q10 := hcl 10 (by omega)
          simp only [LN.cells, LN.arr, List.getElem?_cons_zero, List.getElem?_cons_succ, Nat.add_zero] at q0 q1 q2 q3 q4 q5 q6 q7 q8 q9 q10
          have hlk := (HNK.out.keep (HR.out.trans ((Ext.refl wr).alloc (.cells #[.string ⟨#[]⟩, .bool false, .int .i64 (wd : Int), .string ⟨#[]⟩, .bool false, .int .i64 (op : Int), .int .i64 (a : Int), .int .i64 (b : Int), .int .i64 imm, .int .u32 0, .bool false] 87)))).look
          have HW := Lib.hid (HR.out.trans ((Ext.refl wr).alloc (.cells #[.string ⟨#[]⟩, .bool false, .int .i64 (wd : Int), .string ⟨#[]⟩, .bool false, .int .i64 (op : Int), .int .i64 (a : Int), .int .i64 (b : Int), .int .i64 imm, .int .u32 0, .bool false] 87)))
          clear hcl hW
          by_cases hw : wd = 0
          · have hw0 : ((wd : Int) == 0) = true := by simp [hw]
            clear hw
            go_wp2_with fail
            all_goals exact ⟨⟨k + 1, m, by omega, by omega, by go_num, rfl, HW⟩, by simp [intOf]; omega⟩
          · have hw0 : ((wd : Int) == 0) = false := by simp; omega
            clear hw
            go_wp2_with fail
            all_goals exact ⟨⟨k + 1, m + wd, by omega, by omega, by go_num, by go_num, HW⟩, by simp [intOf]; omega⟩
        · obtain rfl : k = code.length + 1 := by omega
          rw [show ((code.length + 1 : Nat) : Int) = (code.length : Int) + 1 from by omega]
          go_wp2_with fail
          obtain ⟨W5, rfl⟩ : ∃ W5, W5 = wr := ⟨_, rfl⟩
          have x5 := HR.out.size
          have x3 := HE3.out.size
          obtain ⟨j0, hj0, hy0, hy1, hy2⟩ := info_parts info41
          have hn1 : code.length + 1 ≤ 385 := by omega
          go_loopw [16, 109] (fun v i wr => ∃ k m : Nat, k ≤ code.length + 1 ∧ m ≤ k ∧ m ≤ code.length ∧ Hid (m = min k code.length) ∧ i = .int .i64 k ∧ Hid (Ext W5 wr ∧ wr.ownsRow W5.heap.size 41 1 v m ((code.take m).map fun i => wordV i.word))) (fun _ i _ => code.length + 1 - (intOf i).toNat)
          case atStart => exact ⟨0, 0, by omega, by omega, by omega, Lib.hid (by simp), rfl, Lib.hid ⟨Ext.refl _, World.ownsRow_nil _ _ _ _⟩⟩
          case round =>
            obtain ⟨k, m, hk, hmk, hmc, HM, rfl, HQ⟩ := hrel
            have hW := (HE3.out.trans HR.out).trans HQ.out.1
            have xr := HQ.out.1.size
            obtain ⟨va, vc, rfl⟩ := own_form HQ.out.2
            rcases Nat.lt_trichotomy k code.length with hlt | hlt | hlt
            · have hkm := HM.out
              obtain rfl : m = k := by omega
              obtain ⟨op, a, b, e1, e2, e3, hok⟩ := HGD.out code[m] (List.getElem_mem hlt)
              have hcl := HCELL.out m (by omega)
              rw [lines_at code m hlt] at hcl
              have htake : (code.take (m + 1)).map (fun i => wordV i.word) = (code.take m).map (fun i => wordV i.word) ++ [wordV code[m].word] := by
                rw [List.take_succ_eq_append_getElem hlt, List.map_append]; rfl
              generalize code[m] = ins at *
              obtain ⟨xop, xa, xb, imm⟩ := ins
              simp only at e1 e2 e3 hok
              subst e1 e2 e3
              have q0 : wr.cell? ⟨gl, m * 11, none⟩ = some (.string ⟨#[]⟩) := ((hW.cell gl (m * 11 + 0) hgl).trans (hcl 0 (by omega))).trans rfl
              have q1 : wr.cell? ⟨gl, m * 11 + 1, none⟩ = some (.bool false) := ((hW.cell gl (m * 11 + 1) hgl).trans (hcl 1 (by omega))).trans rfl
              have q2 : wr.cell? ⟨gl, m * 11 + 2, none⟩ = some (.int .i64 1) := ((hW.cell gl (m * 11 + 2) hgl).trans (hcl 2 (by omega))).trans rfl
              have q3 : wr.cell? ⟨gl, m * 11 + 3, none⟩ = some (.string ⟨#[]⟩) := ((hW.cell gl (m * 11 + 3) hgl).trans (hcl 3 (by omega))).trans rfl
              have q4 : wr.cell? ⟨gl, m * 11 + 4, none⟩ = some (.bool false) := ((hW.cell gl (m * 11 + 4) hgl).trans (hcl 4 (by omega))).trans rfl
              have q5 : wr.cell? ⟨gl, m * 11 + 5, none⟩ = some (.int .i64 (op : Int)) := ((hW.cell gl (m * 11 + 5) hgl).trans (hcl 5 (by omega))).trans rfl
              have q6 : wr.cell? ⟨gl, m * 11 + 6, none⟩ = some (.int .i64 (a : Int)) := ((hW.cell gl (m * 11 + 6) hgl).trans (hcl 6 (by omega))).trans rfl
              have q7 : wr.cell? ⟨gl, m * 11 + 7, none⟩ = some (.int .i64 (b : Int)) := ((hW.cell gl (m * 11 + 7) hgl).trans (hcl 7 (by omega))).trans rfl
              have q8 : wr.cell? ⟨gl, m * 11 + 8, none⟩ = some (.int .i64 imm) := ((hW.cell gl (m * 11 + 8) hgl).trans (hcl 8 (by omega))).trans rfl
              have q9 : wr.cell? ⟨gl, m * 11 + 9, none⟩ = some (.int .u32 0) := ((hW.cell gl (m * 11 + 9) hgl).trans (hcl 9 (by omega))).trans rfl
              have q10 : wr.cell? ⟨gl, m * 11 + 10, none⟩ = some (.bool false) := ((hW.cell gl (m * 11 + 10) hgl).trans (hcl 10 (by omega))).trans rfl
              have HTAKE := Lib.hid htake
              have hgive := give_ins op a b imm hok (wr.alloc (.cells #[.string ⟨#[]⟩, .bool false, .int .i64 1, .string ⟨#[]⟩, .bool false, .int .i64 (op : Int), .int .i64 (a : Int), .int .i64 (b : Int), .int .i64 imm, .int .u32 0, .bool false] 87)) (HG.out.ext ((((HE1.out.trans HEr.out).trans hW)).trans ((Ext.refl wr).alloc _))) wr.heap.size wA.heap.size (m : Int) (by rw [heapA, if_pos rfl]; rfl)
              have HGIVE := Lib.hid hgive
              clear hcl htake hgive hok hkm hW
              go_wp2_with fail
              refine HGIVE.out.mono ?_
              rintro e w2 ⟨g, rfl, hg1, hg2, hE⟩
              rw [szA] at hg1
              have HE2 := Lib.hid (((Ext.refl wr).alloc (.cells #[.string ⟨#[]⟩, .bool false, .int .i64 1, .string ⟨#[]⟩, .bool false, .int .i64 (op : Int), .int .i64 (a : Int), .int .i64 (b : Int), .int .i64 imm, .int .u32 0, .bool false] 87)).trans hE)
              have HG2 := Lib.hid hg2
              have x2 := HE2.out.size
              clear hE hg2 HGIVE q0 q1 q2 q3 q4 q5 q6 q7 q8 q9 q10
              have CONT : ∀ {o : Oper} {rest : List Oper} {ops : Array Oper} {A : Act} {Q : Exit → Act → World → Prop}, o.guard = none → o.op = .call { callee := .builtin .append, args := #[.tmp 113, .tmp 117], argTypes := #[23, 23] } → A.eval (.tmp 113) = .slice va m vc → A.eval (.tmp 117) = .slice (some ⟨g, 0, none⟩) 1 1 →
                  (∀ v' w3, Hid (Ext W5 w3 ∧ w3.ownsRow W5.heap.size 41 1 v' (m + 1) ((code.take (m + 1)).map fun i => wordV i.word)) → wpList Tryz.prog ops Q rest (A.put o.dst v') w3) →
                  wpList Tryz.prog ops Q (o :: rest) A w2 := by
                intro o rest ops A Q hgd ho e1 e2 kk
                refine wpList_own_append hgd (.tmp 113) (.tmp 117) 23 ho W5.heap.size 41 j0 _ 1 4 Tryz.underlying23 hj0 hy0 hy1 hy2 rfl (by decide) (.slice va m vc) m ((code.take m).map fun i => wordV i.word) e1 (own_keep HQ.out.2 (fun q hq => HE2.out.block q (own_block HQ.out.2 hq).2) (Nat.le_refl _))
                  ⟨g, 0, none⟩ 1 1 [.int .u32 (encW op a b imm)] e2 rfl ?_ ?_ (by simp only [maxLen]; omega) (by omega) (by omega) ?_
                · intro j u hu
                  rcases j with _ | j
                  · simp only [List.getElem?_cons_zero, Option.some.injEq] at hu
                    subst hu
                    rw [add0, cell_of_heap HG2.out]
                    rfl
                  · simp at hu
                · intro u hu
                  simp only [List.mem_singleton] at hu
                  subst hu
                  rfl
                intro v' w3 hrow3 hg3 hb3
                exact kk v' w3 (Lib.hid ⟨grown_ext HQ.out.1 HE2.out hg3 (fun q hq => (own_block HQ.out.2 hq).1), by rw [HTAKE.out]; exact hrow3⟩)
              go_wp2_with (refine CONT rfl rfl rfl rfl ?_; intro v' w3 HR3)
              all_goals exact ⟨⟨m + 1, m + 1, by omega, by omega, by omega, Lib.hid (by omega), by go_num, HR3⟩, by simp [intOf]; omega⟩
            · have hkm := HM.out
              obtain rfl : m = k := by omega
              have hcl := HCELL.out m (by omega)
              rw [hlt, lines_last, ← hlt] at hcl
              have q0 : wr.cell? ⟨gl, m * 11, none⟩ = some (.string ⟨#[]⟩) := ((hW.cell gl (m * 11 + 0) hgl).trans (hcl 0 (by omega))).trans rfl
              have q1 : wr.cell? ⟨gl, m * 11 + 1, none⟩ = some (.bool false) := ((hW.cell gl (m * 11 + 1) hgl).trans (hcl 1 (by omega))).trans rfl
              have q2 : wr.cell? ⟨gl, m * 11 + 2, none⟩ = some (.int .i64 0) := ((hW.cell gl (m * 11 + 2) hgl).trans (hcl 2 (by omega))).trans rfl
              have q3 : wr.cell? ⟨gl, m * 11 + 3, none⟩ = some (.string ⟨#[]⟩) := ((hW.cell gl (m * 11 + 3) hgl).trans (hcl 3 (by omega))).trans rfl
              have q4 : wr.cell? ⟨gl, m * 11 + 4, none⟩ = some (.bool false) := ((hW.cell gl (m * 11 + 4) hgl).trans (hcl 4 (by omega))).trans rfl
              have q5 : wr.cell? ⟨gl, m * 11 + 5, none⟩ = some (.int .i64 0) := ((hW.cell gl (m * 11 + 5) hgl).trans (hcl 5 (by omega))).trans rfl
              have q6 : wr.cell? ⟨gl, m * 11 + 6, none⟩ = some (.int .i64 0) := ((hW.cell gl (m * 11 + 6) hgl).trans (hcl 6 (by omega))).trans rfl
              have q7 : wr.cell? ⟨gl, m * 11 + 7, none⟩ = some (.int .i64 0) := ((hW.cell gl (m * 11 + 7) hgl).trans (hcl 7 (by omega))).trans rfl
              have q8 : wr.cell? ⟨gl, m * 11 + 8, none⟩ = some (.int .i64 0) := ((hW.cell gl (m * 11 + 8) hgl).trans (hcl 8 (by omega))).trans rfl
              have q9 : wr.cell? ⟨gl, m * 11 + 9, none⟩ = some (.int .u32 0) := ((hW.cell gl (m * 11 + 9) hgl).trans (hcl 9 (by omega))).trans rfl
              have q10 : wr.cell? ⟨gl, m * 11 + 10, none⟩ = some (.bool false) := ((hW.cell gl (m * 11 + 10) hgl).trans (hcl 10 (by omega))).trans rfl
              have hgive := give_end (wr.alloc (.cells #[.string ⟨#[]⟩, .bool false, .int .i64 0, .string ⟨#[]⟩, .bool false, .int .i64 0, .int .i64 0, .int .i64 0, .int .i64 0, .int .u32 0, .bool false] 87)) wr.heap.size wA.heap.size (m : Int) (by rw [heapA, if_pos rfl]; rfl)
              have HGIVE := Lib.hid hgive
              have HLT := Lib.hid hlt
              have hlt1 : m < code.length + 1 := by omega
              clear hcl hgive hkm hW hlt
              go_wp2_with fail
              refine HGIVE.out.mono ?_
              rintro e w2 ⟨rfl, hE⟩
              have hE2 := ((Ext.refl wr).alloc (.cells #[.string ⟨#[]⟩, .bool false, .int .i64 0, .string ⟨#[]⟩, .bool false, .int .i64 0, .int .i64 0, .int .i64 0, .int .i64 0, .int .u32 0, .bool false] 87)).trans hE
              have HQ2 : Hid (Ext W5 w2 ∧ w2.ownsRow W5.heap.size 41 1 (.slice va m vc) m ((code.take m).map fun i => wordV i.word)) := Lib.hid ⟨HQ.out.1.trans hE2, own_keep HQ.out.2 (fun q hq => hE2.block q (own_block HQ.out.2 hq).2) (Nat.le_refl _)⟩
              clear hE hE2 HGIVE q0 q1 q2 q3 q4 q5 q6 q7 q8 q9 q10
              go_wp2_with (refine wpList_append_own_none rfl (.tmp 113) (.tmp 117) 23 rfl W5.heap.size 41 j0 1 Tryz.underlying23 hj0 _ _ _ rfl HQ2.out.2 rfl ?_)
              have hl2 := HLT.out
              all_goals exact ⟨⟨m + 1, m, by omega, by omega, by omega, Lib.hid (by omega), by go_num, HQ2⟩, by simp [intOf]; omega⟩
            · obtain rfl : k = code.length + 1 := by omega
              have hkm := HM.out
              obtain rfl : m = code.length := by omega
              have hrow := HQ.out.2
              rw [List.take_length] at hrow
              have HROW2 := Lib.hid hrow
              have HW2 := Lib.hid (((HE1.out.trans HEr.out).trans hW))
              clear hrow hW hkm
              go_wp2_with fail
              rw [Exit.noGoto_ret]
              go_ret3
              exact ⟨.slice va code.length vc, rfl, HW2.out, own_keep HROW2.out (fun _ _ => rfl) (by have := HE1.out.size; have := HE3.out.size; omega)⟩
end Go.Proofs.YtgjgaeloehfhiaaGreatDoor
