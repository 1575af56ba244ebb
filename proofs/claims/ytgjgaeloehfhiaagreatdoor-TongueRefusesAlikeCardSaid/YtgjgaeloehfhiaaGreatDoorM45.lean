/- The assembler: a statement read. -/
import Derived.Test.YtgjgaeloehfhiaaGreatDoorM44
section
namespace Go.Proofs.YtgjgaeloehfhiaaGreatDoor
open Go.RowKit

/-- A line of which nothing was read. -/
def lineE : Array Value := #[.string ⟨#[]⟩, .bool false, .int .i64 0, .string ⟨#[]⟩, .bool false, .int .i64 0, .int .i64 0, .int .i64 0, .int .i64 0, .int .u32 0, .bool false]

/-- The line's block at work. -/
structure LnAt (w0 wr : World) (lb : Nat) (lc : Array Value) : Prop where
  kp : Kp lb w0 wr
  l : wr.heap[lb]? = some (.cells lc 87 (0, 0))
theorem LnAt.ext {w0 wr w' : World} {lb : Nat} {lc : Array Value} (h : LnAt w0 wr lb lc) (hE : Ext wr w') : LnAt w0 w' lb lc := ⟨h.kp.ext hE, (hE.block _ (heap_lt h.l)).trans h.l⟩
theorem LnAt.set {w0 wr : World} {lb : Nat} {lc : Array Value} (h : LnAt w0 wr lb lc) (i : Nat) (x : Value) : LnAt w0 (wr.setCell ⟨lb, i, none⟩ x) lb (lc.setIfInBounds i x) :=
  ⟨h.kp.setCell (p := ⟨lb, i, none⟩) (.inl rfl) _, by rw [heapS, if_pos rfl, h.l]; rfl⟩
theorem LnAt.to {w0 wr : World} {lb : Nat} {lc lc' : Array Value} (h : LnAt w0 wr lb lc) (he : lc = lc') : LnAt w0 wr lb lc' := he ▸ h

theorem name_dot (op : Nat) (h0 : 0 < op) (h : op < 27) : (isaRow op).1 ≠ [46, 119, 111, 114, 100] ∧ (isaRow op).1 ≠ [46, 122, 101, 114, 111] := by
  have : ∀ op < 27, 0 < op → (isaRow op).1 ≠ [46, 119, 111, 114, 100] ∧ (isaRow op).1 ≠ [46, 122, 101, 114, 111] := by decide
  exact this op h h0

set_option maxRecDepth 100000 in
set_option maxHeartbeats 6400000 in
theorem statement_any {N : Nat} (op a b : Nat) (imm : Int) (hok : InsOK op a b imm) (w : World) (hG : Gl N w) (lb g : Nat) (hN : N ≤ lb) (va : Option Addr) (vn vc : Nat) (s : ByteArray) (hs : Str s (isaRow op).1) (hlb : w.heap[lb]? = some (.cells lineE 87 (0, 0)))
    (hv : RestV g 0 (fieldsF ⟨(op : Int), (a : Int), (b : Int), imm⟩).length (.slice va vn vc)) (hg : g < w.heap.size) (hgl : g ≠ lb) (hc : ∀ k, k < (fieldsF ⟨(op : Int), (a : Int), (b : Int), imm⟩).length → FieldAt w g k ((fieldsF ⟨(op : Int), (a : Int), (b : Int), imm⟩).getD k [])) :
    Calls Tryz.prog 47 #[.pointer (some ⟨lb, 0, none⟩), .string s, .slice va vn vc] w fun e w' => e = .returned (.bool true) ∧ w'.heap[lb]? = some (.cells (lineC op a b imm) 87 (0, 0)) ∧ Kp lb w w' := by
  obtain ⟨ho0, ho1, ha, hb, hi⟩ := hok
  have hlw := heap_lt hlb
  have hnd := name_dot op ho0 ho1
  rw [← hs, ← Lib.toList_data] at hnd
  have hn1 : (s.toList == [46, 119, 111, 114, 100]) = false := by simpa using hnd.1
  have hn2 : (s.toList == [46, 122, 101, 114, 111]) = false := by simpa using hnd.2
  have hopn : ((op : Int) != 0) = true := by rw [bne_iff_ne]; omega
  obtain ⟨l1, l2, l3⟩ := cells_of_heap hlb
  have l10 : w.cell? ⟨lb, 10, none⟩ = some (.bool false) := l1 10
  have l02 : w.cell? ⟨lb, 2, none⟩ = some (.int .i64 0) := l1 2
  have f10 := l2 10
  have f02 := l2 2
  have H1 := Lib.hid ((((LnAt.mk (Kp.refl lb w) hlb).set 10 (.bool true)).set 10 (.bool false)).set 2 (.int .i64 1))
  have HG := Lib.hid hG
  have HS := Lib.hid hs
  have HV := Lib.hid hv
  have HC := Lib.hid hc
  clear hG hs hv hc hlb l1 l2 hnd
  have hF : fieldsF ⟨(op : Int), (a : Int), (b : Int), imm⟩ = (if (isaRow op).2.1 then [114 :: Lib.decDigits a] else []) ++ (if (isaRow op).2.2.1 then [114 :: Lib.decDigits b] else []) ++ (if (isaRow op).2.2.2.1 = 0 then [] else [Lib.itoa imm]) := rfl
  have HF := Lib.hid hF
  clear hF
  go_enter Tryz.func47, Tryz.ntmps47
  go_wp2_with fail
  refine (find_any op ho0 ho1 s HS.out _ (HG.out.kp hN H1.out.kp).isa).mono ?_
  rintro e w2 ⟨rfl, hE⟩
  have H2 := Lib.hid (H1.out.ext hE)
  obtain ⟨l1, l2, l3'⟩ := cells_of_heap H2.out.l
  have l05 : w2.cell? ⟨lb, 5, none⟩ = some (.int .i64 0) := l1 5
  have f05 := l2 5
  have H3 := Lib.hid ((H2.out.set 5 (.int .i64 op)).to (show _ = lineC op 0 0 0 from rfl))
  clear hE l10 l02 f10 f02 l1 l2 H1
  obtain ⟨c0, c1, c2, c3, c4, cs⟩ := isa_cells (HG.out.kp hN H3.out.kp).isa op ho1
  generalize hmap : isaRow op = R at *
  obtain ⟨nm, r1, r2, kd, r4⟩ := R
  simp only at c0 c1 c2 c3 c4
  go_wp2_with fail
  have hsz := H3.out.kp.size
  refine (operands_core op a b imm nm r1 r2 kd r4 ha hb hi _ HF.out _ lb g va vn vc H3.out.l HV.out (by omega) hgl (fun k hk => ?_)).mono ?_
  · obtain ⟨t, h1, h2⟩ := HC.out k hk
    exact ⟨t, (H3.out.kp.cell g k hg hgl).trans h1, h2⟩
  rintro e w4 ⟨rfl, hl4, hk4⟩
  have HL4 := Lib.hid hl4
  have HK4 := Lib.hid (H3.out.kp.trans hk4)
  clear hl4 hk4
  go_wp2_with fail
  go_ret
  exact ⟨rfl, HL4.out, HK4.out⟩
end Go.Proofs.YtgjgaeloehfhiaaGreatDoor
end
section
/- The assembler: a line read. -/
namespace Go.Proofs.YtgjgaeloehfhiaaGreatDoor
open Go.RowKit

theorem results22_run {tmps : Array Value} {Q : Nat} {x0 x1 x2 x3 x4 x5 x6 x7 x8 x9 x10 : Value} {w : World} (h2 : tmps[2]? = some (.pointer (some ⟨Q, 0, none⟩)))
    (hq : w.heap[Q]? = some (.cells #[x0, x1, x2, x3, x4, x5, x6, x7, x8, x9, x10] 87 (0, 0))) : (results Tryz.f22 tmps).run Tryz.prog w = .ok (.agg #[x0, x1, x2, x3, x4, x5, x6, x7, x8, x9, x10]) w := by
  have c0 := cell_of_heap (o := 0) hq
  have c1 := cell_of_heap (o := 1) hq
  have c2 := cell_of_heap (o := 2) hq
  have c3 := cell_of_heap (o := 3) hq
  have c4 := cell_of_heap (o := 4) hq
  have c5 := cell_of_heap (o := 5) hq
  have c6 := cell_of_heap (o := 6) hq
  have c7 := cell_of_heap (o := 7) hq
  have c8 := cell_of_heap (o := 8) hq
  have c9 := cell_of_heap (o := 9) hq
  have c10 := cell_of_heap (o := 10) hq
  simp only [List.getElem?_toArray, List.getElem?_cons_zero, List.getElem?_cons_succ] at c0 c1 c2 c3 c4 c5 c6 c7 c8 c9 c10
  simp [results, Tryz.results22, h2, go_sem, c0, c1, c2, c3, c4, c5, c6, c7, c8, c9, c10]
/-- The cells of a line's block. -/
theorem cells11 {w : World} {q : Nat} {x0 x1 x2 x3 x4 x5 x6 x7 x8 x9 x10 : Value} {T : TypeId} (h : w.heap[q]? = some (.cells #[x0, x1, x2, x3, x4, x5, x6, x7, x8, x9, x10] T (0, 0))) :
    (w.cell? ⟨q, 0, none⟩ = some x0 ∧ w.cell? ⟨q, 1, none⟩ = some x1 ∧ w.cell? ⟨q, 2, none⟩ = some x2 ∧ w.cell? ⟨q, 3, none⟩ = some x3 ∧ w.cell? ⟨q, 4, none⟩ = some x4 ∧ w.cell? ⟨q, 5, none⟩ = some x5 ∧ w.cell? ⟨q, 6, none⟩ = some x6 ∧ w.cell? ⟨q, 7, none⟩ = some x7 ∧ w.cell? ⟨q, 8, none⟩ = some x8 ∧ w.cell? ⟨q, 9, none⟩ = some x9 ∧ w.cell? ⟨q, 10, none⟩ = some x10) ∧
    (w.frozen? ⟨q, 0, none⟩ = false ∧ w.frozen? ⟨q, 1, none⟩ = false ∧ w.frozen? ⟨q, 2, none⟩ = false ∧ w.frozen? ⟨q, 3, none⟩ = false ∧ w.frozen? ⟨q, 4, none⟩ = false ∧ w.frozen? ⟨q, 5, none⟩ = false ∧ w.frozen? ⟨q, 6, none⟩ = false ∧ w.frozen? ⟨q, 7, none⟩ = false ∧ w.frozen? ⟨q, 8, none⟩ = false ∧ w.frozen? ⟨q, 9, none⟩ = false ∧ w.frozen? ⟨q, 10, none⟩ = false) ∧ q < w.heap.size := by
  obtain ⟨a, b, c⟩ := cells_of_heap h
  exact ⟨⟨a 0, a 1, a 2, a 3, a 4, a 5, a 6, a 7, a 8, a 9, a 10⟩, ⟨b 0, b 1, b 2, b 3, b 4, b 5, b 6, b 7, b 8, b 9, b 10⟩, c⟩
/-- A line's block written over. -/
theorem eleven_set {w w1 : World} {Q : Nat} {y0 y1 y2 y3 y4 y5 y6 y7 y8 y9 y10 : Value} (hE : Ext w w1) (hQ : w.heap.size ≤ Q) {x0 x1 x2 x3 x4 x5 x6 x7 x8 x9 x10 : Value} (hq : w1.heap[Q]? = some (.cells #[x0, x1, x2, x3, x4, x5, x6, x7, x8, x9, x10] 87 (0, 0))) :
    (((((((((((w1.setCell ⟨Q, 0, none⟩ y0).setCell ⟨Q, 1, none⟩ y1).setCell ⟨Q, 2, none⟩ y2).setCell ⟨Q, 3, none⟩ y3).setCell ⟨Q, 4, none⟩ y4).setCell ⟨Q, 5, none⟩ y5).setCell ⟨Q, 6, none⟩ y6).setCell ⟨Q, 7, none⟩ y7).setCell ⟨Q, 8, none⟩ y8).setCell ⟨Q, 9, none⟩ y9).setCell ⟨Q, 10, none⟩ y10).heap[Q]? = some (.cells #[y0, y1, y2, y3, y4, y5, y6, y7, y8, y9, y10] 87 (0, 0)) ∧
    Ext w (((((((((((w1.setCell ⟨Q, 0, none⟩ y0).setCell ⟨Q, 1, none⟩ y1).setCell ⟨Q, 2, none⟩ y2).setCell ⟨Q, 3, none⟩ y3).setCell ⟨Q, 4, none⟩ y4).setCell ⟨Q, 5, none⟩ y5).setCell ⟨Q, 6, none⟩ y6).setCell ⟨Q, 7, none⟩ y7).setCell ⟨Q, 8, none⟩ y8).setCell ⟨Q, 9, none⟩ y9).setCell ⟨Q, 10, none⟩ y10) := by
  have step : ∀ {u : World} {c : Array Value} (i : Nat) (y : Value), u.heap[Q]? = some (.cells c 87 (0, 0)) ∧ Ext w u → (u.setCell ⟨Q, i, none⟩ y).heap[Q]? = some (.cells (c.setIfInBounds i y) 87 (0, 0)) ∧ Ext w (u.setCell ⟨Q, i, none⟩ y) := fun i y h =>
    ⟨by rw [heapS, if_pos rfl, h.1]; rfl, h.2.setCell (p := ⟨Q, i, none⟩) hQ y⟩
  have h0 := step 0 y0 ⟨hq, hE⟩
  have h1 := step 1 y1 h0
  have h2 := step 2 y2 h1
  have h3 := step 3 y3 h2
  have h4 := step 4 y4 h3
  have h5 := step 5 y5 h4
  have h6 := step 6 y6 h5
  have h7 := step 7 y7 h6
  have h8 := step 8 y8 h7
  have h9 := step 9 y9 h8
  have h10 := step 10 y10 h9
  refine ⟨?_, h10.2⟩
  have h := h10.1
  simp only [List.setIfInBounds_toArray, List.set_cons_zero, List.set_cons_succ] at h
  exact h
/-- Two new lines. -/
structure Two (w wr : World) : Prop where
  ext : Ext w wr
  a : wr.heap[w.heap.size]? = some (.cells lineE 87 (0, 0))
  b : wr.heap[w.heap.size + 1]? = some (.cells lineE 87 (0, 0))
theorem Two.start (w : World) : Two w ((w.alloc (.cells lineE 87)).alloc (.cells lineE 87)) :=
  ⟨((Ext.refl w).alloc _).alloc _, by rw [heapA, if_neg (by rw [szA]; omega), heapA, if_pos rfl], by rw [heapA, if_pos (by rw [szA])]⟩
theorem Two.keep {w wr w' : World} (h : Two w wr) (hE : Ext wr w') : Two w w' := ⟨h.ext.trans hE, (hE.block _ (heap_lt h.a)).trans h.a, (hE.block _ (heap_lt h.b)).trans h.b⟩

theorem str_empty {s : ByteArray} (h : Str s []) : s.toList.isEmpty = true := by rw [Lib.toList_data, h]; rfl
theorem str_some {s : ByteArray} {l : List UInt8} (h : Str s l) (hl : l ≠ []) : s.toList.isEmpty = false := by
  rw [Lib.toList_data, h]
  cases l with
  | nil => exact absurd rfl hl
  | cons a b => rfl

set_option maxRecDepth 100000 in
set_option maxHeartbeats 6400000 in
theorem parse_end {N : Nat} (s : ByteArray) (hs : Str s []) (w : World) (hG : Gl N w) : Calls Tryz.prog 22 #[.string s] w fun e w' => e = .returned (.agg lineE) ∧ Ext w w' := by
  have hsz := str_size hs
  simp only [List.length_nil] at hsz
  have H0 := Lib.hid (Two.start w)
  have HG := Lib.hid hG
  have HS := Lib.hid hs
  clear hG hs
  have h59 : (59 : UInt8) ∉ s.data.toList := by rw [HS.out]; simp
  have HN := Lib.hid h59
  clear h59
  unfold lineE at *
  go_enter Tryz.func22, Tryz.ntmps22
  go_wp2_with fail
  refine (cut_call s 59 (by omega) HN.out _ (HG.out.ext H0.out.ext)).mono ?_
  rintro e w1 ⟨rfl, hE⟩
  have H1 := Lib.hid (H0.out.keep hE)
  clear hE H0
  go_wp2_with fail
  refine (trim_call s [] (by omega) (by rw [HS.out]; rfl) _).mono ?_
  rintro e w2 ⟨t, rfl, ht, hE⟩
  have hem := str_empty ht
  have hsz2 := str_size ht
  simp only [List.length_nil] at hsz2
  have HT := Lib.hid ht
  have H2 := Lib.hid (H1.out.keep hE)
  clear hE H1 ht
  go_wp2_with fail
  refine (cut_call t 58 (by omega) (by rw [HT.out]; simp) _ (HG.out.ext H2.out.ext)).mono ?_
  rintro e w3 ⟨rfl, hE⟩
  have H3 := Lib.hid (H2.out.keep hE)
  clear hE H2
  obtain ⟨⟨p0, p1, p2, p3, p4, p5, p6, p7, p8, p9, p10⟩, ⟨g0, g1, g2, g3, g4, g5, g6, g7, g8, g9, g10⟩, hz1⟩ := cells11 H3.out.a
  obtain ⟨⟨q0, q1, q2, q3, q4, q5, q6, q7, q8, q9, q10⟩, -, hz2⟩ := cells11 H3.out.b
  go_wp2_with fail
  obtain ⟨r1, r2⟩ := eleven_set (y0 := .string ⟨#[]⟩) (y1 := .bool false) (y2 := .int .i64 0) (y3 := .string ⟨#[]⟩) (y4 := .bool false) (y5 := .int .i64 0) (y6 := .int .i64 0) (y7 := .int .i64 0) (y8 := .int .i64 0) (y9 := .int .u32 0) (y10 := .bool false) H3.out.ext (Nat.le_refl _) H3.out.a
  exact bodyPost_ret (results22_run rfl r1) rfl ⟨rfl, r2⟩
end Go.Proofs.YtgjgaeloehfhiaaGreatDoor
end
section
/- The assembler: an instruction's line read. -/
namespace Go.Proofs.YtgjgaeloehfhiaaGreatDoor
open Go.RowKit

/-- Behind the statement: the line is done. -/
theorem body_parts {op a b : Nat} {imm : Int} : bodyF ⟨(op : Int), (a : Int), (b : Int), imm⟩ = (isaRow op).1 ++ (if fieldsF ⟨(op : Int), (a : Int), (b : Int), imm⟩ = [] then [] else 32 :: Lib.join (fieldsF ⟨(op : Int), (a : Int), (b : Int), imm⟩) [44, 32]) := rfl

/-- The loop over pieces. -/
structure PcRel (w2 wr : World) (q : Nat) (o1 : Obj) (ps : List ByteArray) (F : List (List UInt8)) (v : Value) (xs : List ByteArray) : Prop where
  fs : FS w2 q o1 (.cells (ps.map Value.string).toArray 9 (0, 0)) wr v xs
  at_ : ∀ (j : Nat) (x : ByteArray), xs[j]? = some x → Str x (F.getD j [])

set_option maxRecDepth 100000 in
set_option maxHeartbeats 1600000 in
theorem parse_ins {N : Nat} (op a b : Nat) (imm : Int) (hok : InsOK op a b imm) (s : ByteArray) (hs : Str s (bodyF ⟨(op : Int), (a : Int), (b : Int), imm⟩)) (w : World) (hG : Gl N w) (hN : N ≤ w.heap.size) :
    Calls Tryz.prog 22 #[.string s] w fun e w' => e = .returned (.agg (lineC op a b imm)) ∧ Ext w w' := by
  have hi : Ins.good ⟨(op : Int), (a : Int), (b : Int), imm⟩ := ⟨op, a, b, rfl, rfl, rfl, hok⟩
  have hbl := body_blank hi
  have hsz := body_size hi
  have hb59 := body_not (c := 59) (by decide) (by decide) (by decide) hi
  have hb58 := body_not (c := 58) (by decide) (by decide) (by decide) hi
  have hba := body_ascii hi
  have hfw := fields_W ⟨(op : Int), (a : Int), (b : Int), imm⟩
  have hfl := fields_len hi
  have hnw := name_W op hok.op0 hok.op1
  have hbody := body_parts (op := op) (a := a) (b := b) (imm := imm)
  rw [← str_size hs] at hsz
  generalize hB : bodyF ⟨(op : Int), (a : Int), (b : Int), imm⟩ = B at *
  generalize hFd : fieldsF ⟨(op : Int), (a : Int), (b : Int), imm⟩ = F at *
  have H0 := Lib.hid (Two.start w)
  have HG := Lib.hid hG
  have HS := Lib.hid hs
  have HOK := Lib.hid hok
  have HBL := Lib.hid hbl
  have H59 := Lib.hid hb59
  have H58 := Lib.hid hb58
  have HBA := Lib.hid hba
  have HFW := Lib.hid hfw
  have HFL := Lib.hid hfl
  have HNW := Lib.hid hnw
  have HB := Lib.hid hbody
  have HFD := Lib.hid hFd
  clear hG hs hok hbl hb59 hb58 hba hfw hfl hnw hbody hFd hB hi
  unfold lineE lineC at *
  go_enter Tryz.func22, Tryz.ntmps22
  go_wp2_with fail
  refine (cut_call s 59 (by omega) (by rw [HS.out]; exact H59.out) _ (HG.out.ext H0.out.ext)).mono ?_
  rintro e w1 ⟨rfl, hE⟩
  have H1 := Lib.hid (H0.out.keep hE)
  clear hE H0
  go_wp2_with fail
  refine (trim_call s B (by omega) (by rw [HS.out]; exact trim_id HBL.out.2.1 HBL.out.2.2) _).mono ?_
  rintro e w2 ⟨t, rfl, ht, hE⟩
  have hem := str_some ht HBL.out.1
  have hszt : t.size ≤ 30 := by rw [str_size ht, ← str_size HS.out]; exact hsz
  have HT := Lib.hid ht
  have H2 := Lib.hid (H1.out.keep hE)
  clear hE H1 ht
  go_wp2_with fail
  refine (cut_call t 58 (by omega) (by rw [HT.out]; exact H58.out) _ (HG.out.ext H2.out.ext)).mono ?_
  rintro e w3 ⟨rfl, hE⟩
  have H3 := Lib.hid (H2.out.keep hE)
  clear hE H2
  go_wp2_with fail
  refine (any_call t (by omega) (by rw [HT.out]; exact HBA.out) _).mono ?_
  rintro e w4 ⟨rfl, hE⟩
  have H4 := Lib.hid (H3.out.keep hE)
  clear hE H3
  by_cases hF0 : F = []
  · have hix : Lib.indexAny t.data.toList [32, 9] = -1 := by
      rw [HT.out, HB.out, if_pos hF0, List.append_nil]
      exact any_no HNW.out.2
    have hnm : Str t (isaRow op).1 := by
      show t.data.toList = _
      rw [HT.out, HB.out, if_pos hF0, List.append_nil]
    rw [hix]
    have HNM := Lib.hid hnm
    clear hix hnm
    have HFD2 : Hid (fieldsF ⟨(op : Int), (a : Int), (b : Int), imm⟩ = []) := Lib.hid (HFD.out.trans hF0)
    have hz4 := heap_lt H4.out.a
    go_wp2_with fail
    refine (statement_any op a b imm HOK.out w4 (HG.out.ext H4.out.ext) (w.heap.size + 1) w.heap.size (by omega) none 0 0 t HNM.out H4.out.b (by rw [HFD2.out]; exact .inl ⟨rfl, _, _, rfl⟩) hz4 (by omega) (by rw [HFD2.out]; intro k hk; simp at hk)).mono ?_
    rintro e w9 ⟨rfl, hl9, hk9⟩
    unfold lineC at hl9
    have ha9 := (hk9.block _ (heap_lt H4.out.a) (by omega)).trans H4.out.a
    have hE9 : Ext w w9 := ((H4.out.ext.kp _).trans hk9).fresh (by omega)
    unfold lineE at ha9
    obtain ⟨⟨p0, p1, p2, p3, p4, p5, p6, p7, p8, p9, p10⟩, ⟨g0, g1, g2, g3, g4, g5, g6, g7, g8, g9, g10⟩, hz1⟩ := cells11 ha9
    obtain ⟨⟨q0, q1, q2, q3, q4, q5, q6, q7, q8, q9, q10⟩, ⟨-, j1, -⟩, hz2⟩ := cells11 hl9
    have HA9 := Lib.hid ha9
    have HE9 := Lib.hid hE9
    clear ha9 hl9 hk9 hE9
    have m1 : w.heap.size ≠ w.heap.size + 1 := by omega
    go_wp2_with fail
    have hE10 : Ext w (w9.setCell ⟨w.heap.size + 1, 1, none⟩ (.bool false)) := HE9.out.setCell (p := ⟨w.heap.size + 1, 1, none⟩) (by show w.heap.size ≤ w.heap.size + 1; omega) _
    obtain ⟨r1, r2⟩ := eleven_set (y0 := .string ⟨#[]⟩) (y1 := .bool false) (y2 := .int .i64 1) (y3 := .string ⟨#[]⟩) (y4 := .bool false) (y5 := .int .i64 op) (y6 := .int .i64 a) (y7 := .int .i64 b) (y8 := .int .i64 imm) (y9 := .int .u32 0) (y10 := .bool false) hE10 (Nat.le_refl _)
      (show (w9.setCell ⟨w.heap.size + 1, 1, none⟩ (.bool false)).heap[w.heap.size]? = _ by rw [heapS, if_neg (by omega)]; exact HA9.out)
    exact bodyPost_ret (results22_run rfl r1) rfl ⟨rfl, r2⟩
  · have hix : Lib.indexAny t.data.toList [32, 9] = (((isaRow op).1.length : Nat) : Int) := by
      rw [HT.out, HB.out, if_neg hF0]
      exact any_yes HNW.out.2
    rw [hix]
    clear hix
    have hnt : (isaRow op).1.length ≤ t.size := by
      rw [str_size HT.out, HB.out]; simp
    have hnm : Str (t.extract 0 (isaRow op).1.length) (isaRow op).1 := by
      show (t.extract 0 (isaRow op).1.length).data.toList = _
      rw [Lib.extract_from_zero, HT.out, HB.out]
      simp
    have hrs : Str (t.extract (isaRow op).1.length t.size) (32 :: Lib.join F [44, 32]) := by
      show (t.extract (isaRow op).1.length t.size).data.toList = _
      rw [Lib.extract_to_end, HT.out, HB.out, if_neg hF0]
      simp
    have HNM := Lib.hid hnm
    have HRS := Lib.hid hrs
    clear hnm hrs
    generalize hnl : (isaRow op).1.length = n at *
    clear hnl
    go_wp2_with fail
    refine wp_region_plan (fun _ => True) [(0, true), (1, true), (2, true), (3, true), (4, true), (5, true), (6, false), (7, true), (8, true)] true (by kernel_rfl) (by kernel_rfl) (fun c a d v w h => by cases d <;> exact h) trivial ?_
    iterate 6 (refine ⟨_, ?_, rfl, Or.inl ⟨by rfl, ?_⟩, ?_⟩; rotate_left; (· intro w' hSw; (try dsimp only at hSw); go_simp; (try with_reducible rfl)); simp only [Act.put, List.setIfInBounds_toArray, List.set_cons_zero, List.set_cons_succ, List.getElem_toArray, List.getElem_cons_zero, List.getElem_cons_succ])
    refine wpPlan_act rfl (by rfl) (fun K hK => ?_)
    go_simp
    have hjb := join_blank F hF0 HFL.out.1 HFW.out
    have HJB := Lib.hid hjb
    clear hjb
    have hzr := str_size HRS.out
    simp only [List.length_cons] at hzr
    have hzj := HFL.out.2.1
    refine (trim_call (t.extract n t.size) (Lib.join F [44, 32]) (by omega) (by rw [HRS.out]; exact trim_sp HJB.out.1 HJB.out.2.1 HJB.out.2.2) _).mono ?_
    rintro e w5 ⟨r, rfl, hr, hE⟩
    have hrem := str_some hr HJB.out.1
    have hszr : r.size ≤ 20 := by rw [str_size hr]; exact hzj
    have HR := Lib.hid hr
    have H5 := Lib.hid (H4.out.keep (((Ext.refl w4).drew).trans hE))
    clear hE H4 hr hzr
    refine hK _ _ (fun _ => trivial) ?_
    clear hK K
    try simp only [Act.put, List.setIfInBounds_toArray, List.set_cons_zero, List.set_cons_succ]
    iterate 2 (refine ⟨_, ?_, rfl, Or.inl ⟨by rfl, ?_⟩, ?_⟩; rotate_left; (· intro w' hSw; (try dsimp only at hSw); go_simp; (try with_reducible rfl)); simp only [Act.put, List.setIfInBounds_toArray, List.set_cons_zero, List.set_cons_succ, List.getElem_toArray, List.getElem_cons_zero, List.getElem_cons_succ])
    refine ⟨rfl, ?_⟩
    have hsp := split_fields F HR.out hF0 HFL.out.1 HFW.out
    have hz5 := heap_lt H5.out.b
    obtain ⟨q, hq⟩ : ∃ q, w5.heap.size = q + 1 := ⟨w5.heap.size - 1, by omega⟩
    have hsc := split_call r 44 (piecesF F) (by omega) hsp.2 (by rw [pieces_len]; exact hsp.1) w5 (HG.out.ext H5.out.ext)
    rw [pieces_len, hq] at hsc
    have HSC := Lib.hid hsc
    have HQ := Lib.hid hq
    have hqz : q + 1 ≤ w5.heap.size := by omega
    have hqy : w5.heap.size ≤ q + 1 := by omega
    clear hsc hsp hq
    go_wp2_with fail
    refine HSC.out.mono ?_
    rintro e w6 ⟨ps, rfl, hps, hpa, hE6, hsz6⟩
    have hF3 := HFL.out.1
    have hFp : 0 < F.length := List.length_pos_iff.2 hF0
    have H6 := Lib.hid (H5.out.keep hE6)
    have hq6 : q < w6.heap.size := by omega
    have HPS := Lib.hid hps
    have HFS0 : Hid (PcRel w6 w6 q w6.heap[q] ps F (.slice none 0 0) []) := Lib.hid ⟨⟨Ext.refl _, Array.getElem?_eq_getElem hq6, hpa, World.ownsRow_nil _ _ _ _⟩, fun j x hx => by simp at hx⟩
    have hz6 : w6.heap.size ≤ q + 2 := by omega
    clear hps hpa hE6 hsz6 HSC H5
    generalize w6.heap[q] = o1 at *
    go_wp2_with fail
    go_loopw [10, 56] (fun v i wr => ∃ xs : List ByteArray, xs.length ≤ F.length ∧ i = .int .i64 (xs.length : Int) ∧ Hid (PcRel w6 wr q o1 ps F v xs)) (fun _ i _ => F.length - (intOf i).toNat)
    case atStart => exact ⟨[], by simp, rfl, HFS0⟩
    case round =>
      obtain ⟨xs, hk, rfl, HP⟩ := hrel
      clear HFS0
      by_cases hlt : xs.length < F.length
      · obtain ⟨p, hp1, hp2⟩ := piece_at HP.out.fs.c2 HPS.out xs.length (by rw [pieces_len]; exact hlt)
        have hpz : p.size ≤ 7 := by rw [str_size hp2]; exact pieces_size F HFL.out.2.2 _
        have HP2 := Lib.hid hp2
        obtain ⟨va, vc, rfl⟩ := own_form HP.out.fs.row
        clear hp2
        go_wp2_with fail
        refine (trim_call p (F.getD xs.length []) (by omega) (by rw [HP2.out]; exact pieces_trim F HFW.out _ hlt) _).mono ?_
        rintro e w7 ⟨x, rfl, hx, hE⟩
        have HF := Lib.hid (HP.out.fs.keep hE)
        have HX := Lib.hid hx
        clear hE hx hp1
        go_wp2_with (refine wpList_fld rfl (.tmp 60) (.tmp 63) rfl x rfl (by first | rfl | (simp only [szA]; rfl)) hz6 (by omega) HF ?_; intro v0 k0 w8 HF0 d1 d2; clear d1 d2)
        all_goals
          refine ⟨⟨xs ++ [x], by rw [List.length_append]; simp only [List.length_cons, List.length_nil]; omega, by rw [List.length_append]; go_num, Lib.hid ⟨?_, fun j y hy => ?_⟩⟩, by simp [intOf]; omega⟩
          · have h := HF0.out
            exact h
          · by_cases hj : j < xs.length
            · rw [List.getElem?_append_left hj] at hy
              exact HP.out.at_ j y hy
            · have hjx : j = xs.length := by
                have := (List.getElem?_eq_some_iff.1 hy).1
                rw [List.length_append] at this
                simp at this
                omega
              subst hjx
              simp at hy
              subst hy
              exact HX.out
      · have hkk : xs.length = F.length := by omega
        obtain ⟨gf, cf, rfl⟩ := own_slc HP.out.fs.row (by omega)
        have hgb := own_block HP.out.fs.row (g := gf) rfl
        have hcc : xs.length ≤ cf := by
          rcases HP.out.fs.row.2 with ⟨_, h0⟩ | ⟨g', cap', cur, hv, _, _, hc, _⟩
          · omega
          · injection hv with _ _ h3; omega
        have hfa : ∀ k, k < F.length → FieldAt _ gf k (F.getD k []) := fun k hk => by
          have hx : k < xs.length := by omega
          have h := World.ownsRow.cellAt HP.out.fs.row k (by omega)
          rw [List.getElem?_map, List.getElem?_eq_getElem hx] at h
          exact ⟨xs[k], h, HP.out.at_ k _ (List.getElem?_eq_getElem hx)⟩
        have H7 := Lib.hid (H6.out.keep HP.out.fs.ext)
        have HFA := Lib.hid hfa
        have hww := HP.out.fs.ext.size
        clear hfa HP H6
        rw [← HFD.out] at hkk
        have HKK := Lib.hid hkk
        clear hkk
        go_wp2_with fail
        refine (statement_any op a b imm HOK.out _ (HG.out.ext H7.out.ext) (w.heap.size + 1) gf (by omega) (some ⟨gf, 0, none⟩) xs.length cf (t.extract 0 n) HNM.out H7.out.b (by rw [← HKK.out]; exact .inr ⟨by omega, cf, hcc, rfl⟩) hgb.2 (by omega) (by rw [HFD.out]; exact HFA.out)).mono ?_
        rintro e w9 ⟨rfl, hl9, hk9⟩
        unfold lineC at hl9
        have ha9 := (hk9.block _ (heap_lt H7.out.a) (by omega)).trans H7.out.a
        have hE9 : Ext w w9 := ((H7.out.ext.kp _).trans hk9).fresh (by omega)
        unfold lineE at ha9
        obtain ⟨⟨p0, p1, p2, p3, p4, p5, p6, p7, p8, p9, p10⟩, ⟨g0, g1, g2, g3, g4, g5, g6, g7, g8, g9, g10⟩, hz1⟩ := cells11 ha9
        obtain ⟨⟨q0, q1, q2, q3, q4, q5, q6, q7, q8, q9, q10⟩, ⟨-, j1, -⟩, hz2⟩ := cells11 hl9
        have HA9 := Lib.hid ha9
        have HE9 := Lib.hid hE9
        clear ha9 hl9 hk9 hE9
        have m1 : w.heap.size ≠ w.heap.size + 1 := by omega
        go_wp2_with fail
        have hE10 : Ext w (w9.setCell ⟨w.heap.size + 1, 1, none⟩ (.bool false)) := HE9.out.setCell (p := ⟨w.heap.size + 1, 1, none⟩) (by show w.heap.size ≤ w.heap.size + 1; omega) _
        obtain ⟨r1, r2⟩ := eleven_set (y0 := .string ⟨#[]⟩) (y1 := .bool false) (y2 := .int .i64 1) (y3 := .string ⟨#[]⟩) (y4 := .bool false) (y5 := .int .i64 op) (y6 := .int .i64 a) (y7 := .int .i64 b) (y8 := .int .i64 imm) (y9 := .int .u32 0) (y10 := .bool false) hE10 (Nat.le_refl _)
          (show (w9.setCell ⟨w.heap.size + 1, 1, none⟩ (.bool false)).heap[w.heap.size]? = _ by rw [heapS, if_neg (by omega)]; exact HA9.out)
        exact bodyPost_ret (results22_run rfl r1) rfl ⟨rfl, r2⟩
end Go.Proofs.YtgjgaeloehfhiaaGreatDoor
end
section
/- The assembler: a line's words. -/
namespace Go.Proofs.YtgjgaeloehfhiaaGreatDoor
open Go.RowKit

theorem info87 : (Tryz.prog.info? 87).map (fun i => (i.zero, i.size, i.bytes)) = some (some (.agg #[.string ⟨#[]⟩, .bool false, .int .i64 0, .string ⟨#[]⟩, .bool false, .int .i64 0, .int .i64 0, .int .i64 0, .int .i64 0, .int .u32 0, .bool false]), 11, 96) := by kernel_rfl

set_option maxRecDepth 100000 in
set_option maxHeartbeats 1600000 in
theorem give_ins {N : Nat} (op a b : Nat) (imm : Int) (hok : InsOK op a b imm) (w : World) (hG : Gl N w) (lb mb : Nat) (addr : Int) (hlb : w.heap[lb]? = some (.cells (lineC op a b imm) 87 (0, 0))) :
    Calls Tryz.prog 23 #[.pointer (some ⟨lb, 0, none⟩), .int .i64 addr, .map (some mb)] w fun e w' => ∃ g, e = .returned (.slice (some ⟨g, 0, none⟩) 1 1) ∧ w.heap.size ≤ g ∧ w'.heap[g]? = some (.cells #[.int .u32 (encW op a b imm)] 41 (0, 0)) ∧ Ext w w' := by
  unfold lineC at hlb
  obtain ⟨⟨q0, q1, q2, q3, q4, q5, q6, q7, q8, q9, q10⟩, -, hz⟩ := cells11 hlb
  have HENC := Lib.hid (encode_ok op a b imm hok w hG.isa)
  clear hlb hG hok
  generalize encW op a b imm = wd at *
  go_enter Tryz.func23, Tryz.ntmps23
  go_wp2_with fail
  refine HENC.out.mono ?_
  rintro e w2 ⟨rfl, hE⟩
  have HE := Lib.hid hE
  clear hE
  go_wp2_with fail
  go_ret
  have x2 := HE.out.size
  exact ⟨w2.heap.size, rfl, x2, by rw [heapA, if_pos rfl], HE.out.alloc _⟩

set_option maxRecDepth 100000 in
set_option maxHeartbeats 1600000 in
theorem give_end (w : World) (lb mb : Nat) (addr : Int) (hlb : w.heap[lb]? = some (.cells lineE 87 (0, 0))) :
    Calls Tryz.prog 23 #[.pointer (some ⟨lb, 0, none⟩), .int .i64 addr, .map (some mb)] w fun e w' => e = .returned (.slice none 0 0) ∧ Ext w w' := by
  unfold lineE at hlb
  obtain ⟨⟨q0, q1, q2, q3, q4, q5, q6, q7, q8, q9, q10⟩, -, hz⟩ := cells11 hlb
  clear hlb
  go_enter Tryz.func23, Tryz.ntmps23
  go_wp2
  go_ret
  exact ⟨rfl, Ext.refl _⟩

/-- A line, as the assembler keeps it: how many words, operation, registers, number. -/
abbrev LN := Nat × Nat × Nat × Nat × Int
def LN.arr (l : LN) : Array Value := #[.string ⟨#[]⟩, .bool false, .int .i64 (l.1 : Int), .string ⟨#[]⟩, .bool false, .int .i64 (l.2.1 : Int), .int .i64 (l.2.2.1 : Int), .int .i64 (l.2.2.2.1 : Int), .int .i64 l.2.2.2.2, .int .u32 0, .bool false]
def LN.cells (l : LN) : List Value := l.arr.toList
def lnOf (i : Ins) : LN := (1, i.op.toNat, i.a.toNat, i.b.toNat, i.imm)
def lnE : LN := (0, 0, 0, 0, 0)
def linesF (code : List Ins) : List LN := code.map lnOf ++ [lnE]
theorem arr_ins (i : Ins) : (lnOf i).arr = lineC i.op.toNat i.a.toNat i.b.toNat i.imm := rfl
theorem arr_end : lnE.arr = lineE := rfl
theorem lines_len (code : List Ins) : (linesF code).length = code.length + 1 := by simp [linesF]
theorem lines_at (code : List Ins) (k : Nat) (hk : k < code.length) : (linesF code).getD k lnE = lnOf code[k] := by
  simp [linesF, List.getD_eq_getElem?_getD, List.getElem?_append_left, hk]
theorem lines_last (code : List Ins) : (linesF code).getD code.length lnE = lnE := by
  simp [linesF, List.getD_eq_getElem?_getD]
theorem flat_ln : ∀ (l : List LN) (k j : Nat), k < l.length → j < 11 → (l.flatMap LN.cells)[k * 11 + j]? = (LN.cells (l.getD k lnE))[j]?
  | [], k, j, h, _ => by simp at h
  | d :: ds, 0, j, _, hj => by
    rw [List.flatMap_cons, List.getElem?_append_left (by simp [LN.cells, LN.arr]; omega)]
    simp
  | d :: ds, k + 1, j, h, hj => by
    rw [List.flatMap_cons, List.getElem?_append_right (by simp [LN.cells, LN.arr]; omega)]
    have := flat_ln ds k j (by simpa using h) hj
    simp only [LN.cells, LN.arr, List.length_cons, List.length_nil, List.getD_cons_succ] at this ⊢
    rw [show (k + 1) * 11 + j - (0 + 1 + 1 + 1 + 1 + 1 + 1 + 1 + 1 + 1 + 1 + 1) = k * 11 + j by omega]
    exact this

/-- Any line of the text. -/
theorem parse_at {N : Nat} (code : List Ins) (hg : ∀ i ∈ code, i.good) (k : Nat) (hk : k < (linesF code).length) (s : ByteArray) (hs : Str s ((code.map bodyF ++ [[]]).getD k [])) (w : World) (hG : Gl N w) (hN : N ≤ w.heap.size) :
    Calls Tryz.prog 22 #[.string s] w fun e w' => e = .returned (.agg ((linesF code).getD k lnE).arr) ∧ Ext w w' := by
  rw [lines_len] at hk
  by_cases hlt : k < code.length
  · rw [lines_at code k hlt, arr_ins]
    obtain ⟨op, a, b, e1, e2, e3, hok⟩ := hg code[k] (List.getElem_mem hlt)
    have hb : (code.map bodyF ++ [[]]).getD k [] = bodyF code[k] := by simp [List.getD_eq_getElem?_getD, List.getElem?_append_left, hlt]
    rw [hb] at hs
    generalize code[k] = i at *
    obtain ⟨xop, xa, xb, imm⟩ := i
    simp only at e1 e2 e3 hok
    subst e1 e2 e3
    exact parse_ins op a b imm hok s hs w hG hN
  · obtain rfl : k = code.length := by omega
    rw [lines_last, arr_end]
    have hb : (code.map bodyF ++ [[]]).getD code.length [] = ([] : List UInt8) := by simp [List.getD_eq_getElem?_getD]
    rw [hb] at hs
    exact parse_end s hs w hG
end Go.Proofs.YtgjgaeloehfhiaaGreatDoor
end
