/- Numerals: Itoa, FormatUint at base 10. -/
import Derived.Test.YtgjgaeloehfhiaaGreatDoorM09
import Derived.Test.YtgjgaeloehfhiaaGreatDoorSh
import Derived.Lib.AppendIntMem
import Derived.Laws.IdiomStrings
import Derived.ProofKit
import Derived.OpenShut
import Derived.Lib.LaidTab
import Derived.MakeChecks
import Derived.WideKeyElems2
import Derived.Test.YtgjgaeloehfhiaaGreatDoorM02
import Derived.Test.YtgjgaeloehfhiaaGreatDoorM07
import Derived.IntWalk
section
namespace Go.Proofs.YtgjgaeloehfhiaaGreatDoor
open Go.RowKit

/-- The library's table of powers, where the law began. -/
def Tb (N : Nat) (w : World) : Prop := ∃ w0, Lib.TabIs Tryz.prog w0 "internal/strconv.uint64pow10" .u64 Lib.pow10Tab ∧ w0.heap.size = N ∧ Below N w0 w
theorem tab_g : Tryz.prog.globalNamed "internal/strconv.uint64pow10" = some 3 := by kernel_rfl
theorem Tb.below {N B : Nat} {w w' : World} (h : Tb N w) (hB : N ≤ B) (k : Below B w w') : Tb N w' := let ⟨w0, a, b, c⟩ := h; ⟨w0, a, b, c.trans (k.mono hB)⟩
theorem Gl.below {N B : Nat} {w w' : World} (h : Gl N w) (hB : N ≤ B) (k : Below B w w') : Gl N w' := let ⟨w0, a, b, c⟩ := h; ⟨w0, a, b, c.trans (k.mono hB)⟩
theorem Tb.ext {N : Nat} {w w' : World} (h : Tb N w) (k : Ext w w') : Tb N w' := by
  obtain ⟨w0, a, b, c⟩ := h
  exact ⟨w0, a, b, c.trans (k.below.mono (by rw [← b]; exact c.size))⟩
theorem Tb.tab {N : Nat} {w : World} (h : Tb N w) : Lib.TabIs Tryz.prog w "internal/strconv.uint64pow10" .u64 Lib.pow10Tab := by
  obtain ⟨w0, a, b, c⟩ := h
  unfold Lib.TabIs World.var? at a ⊢
  rw [tab_g] at a ⊢
  simp only [Option.bind_some] at a ⊢
  have hlt : 3 < w0.heap.size := by
    rcases Nat.lt_or_ge 3 w0.heap.size with h' | h'
    · exact h'
    · rw [Array.getElem?_eq_none h'] at a; cases a
  rw [c.block 3 (by omega)]
  exact a
theorem itoa_any {N : Nat} (n : Int) (h0 : -9223372036854775808 ≤ n) (h1 : n ≤ 9223372036854775807) (w : World) (hT : Tb N w) :
    Calls Tryz.prog 17 #[.int .i64 n] w fun e w' => e = .returned (.string ⟨(Lib.itoa n).toArray⟩) ∧ Ext w w' := by
  refine (Tryz.strconv_Itoa n h0 h1 w hT.tab).mono ?_
  rintro e w' ⟨rfl, k, os, rfl⟩
  exact ⟨rfl, rfl, rfl, rfl, by simp [Sort.grow, World.drewN], fun i hi => Sort.heap_grow_old (w.drewN k) os (by simpa [World.drewN] using hi)⟩

theorem t198 : Tryz.prog.underlying 198 = some (.array (Tryz.prog.arrayLen 198) (Tryz.prog.elem 198)) := by kernel_rfl

set_option maxHeartbeats 3200000 in
set_option maxRecDepth 100000 in
open Go.Sort in
theorem formatU_big {N : Nat} (u : Nat) (hu : 100 ≤ u) (hu64 : u < 18446744073709551616) (w : World) (hT : Tb N w) :
    Calls Tryz.prog 62 #[.int .u64 u, .int .i64 10] w fun e w' => e = .returned (.string ⟨(Lib.decDigits u).toArray⟩) ∧ Ext w w' := by
  have htab := hT.tab
  have hu1 : 1 ≤ u := by omega
  have hnd20 : Lib.nDigits u ≤ 20 := by have := Lib.numDigits_eq u hu1 hu64; split at this <;> omega
  have hsl : ∀ W, (Instr.sliceAt 198 (.pointer (some ⟨w.heap.size, 0, none⟩)) none (some (.int .i64 (Lib.nDigits u : Int))) none).run Tryz.prog W = .ok (.slice (some ⟨w.heap.size, 0, none⟩) (Lib.nDigits u) 24) W := fun W => by
    have hal : Tryz.prog.arrayLen 198 = 24 := by kernel_rfl
    rw [run_sliceAt_array_h W 198 ⟨w.heap.size, 0, none⟩ t198 .i64 (Lib.nDigits u : Int) (by omega) (by rw [hal]; omega)]
    have hel : Tryz.prog.elem 198 = 5 := by kernel_rfl
    rw [hel, hal]
    go_simp
  have hH0 := Lib.holds_zero0 w 198 (Lib.nDigits u) (by omega)
  have hfmt := Tryz.internal_strconv_formatBase10 w.heap.size 0 24 u (Array.replicate (Lib.nDigits u) 0) (w.alloc (.cells Lib.zeros24 198)) hH0 (by rw [Array.size_replicate]; exact Lib.lt_pow_nDigits u) hu64 (by rw [Array.size_replicate]; omega)
  rw [Array.size_replicate] at hfmt
  have HH0 := Lib.hid hH0
  have iu : (100 : Int) ≤ (u : Int) := by omega
  have hlt : decide ((u : Int) < 100) = false := by simp; omega
  clear hH0
  go_enter Tryz.func62, Tryz.ntmps62
  go_wp2_with fail
  refine (Tryz.internal_strconv_numDigits u hu1 hu64 _ (Lib.tabIs_alloc htab _)).mono ?_
  rintro e w' ⟨rfl, rfl⟩
  go_wp2_with fail
  refine hfmt.mono ?_
  rintro e w' ⟨rfl, k, v', dk, rfl, hF⟩
  have hcv : (convert 59 9 (.slice (some ⟨w.heap.size, 0, none⟩) (Lib.nDigits u) 24)).run Tryz.prog ((putRow (fun (b : UInt8) => Value.int .u8 (b.toNat : Int)) (w.alloc (.cells Lib.zeros24 198)) w.heap.size 0 dk).drewN k) = .ok (.string ⟨(Lib.decDigits u).toArray⟩) ((putRow (fun (b : UInt8) => Value.int .u8 (b.toNat : Int)) (w.alloc (.cells Lib.zeros24 198)) w.heap.size 0 dk).drewN k) := by
    have h := run_convert_bytes_back (P := Tryz.prog) ((putRow (fun (b : UInt8) => Value.int .u8 (b.toNat : Int)) (w.alloc (.cells Lib.zeros24 198)) w.heap.size 0 dk).drewN k) 59 9 5 ⟨w.heap.size, 0, none⟩ 24 (Lib.decDigits u) Tryz.underlying59 Tryz.underlying5 Tryz.underlying9 (fun j hj => by
      rw [Lib.row_is_numeral hF j hj, Lib.add_plain, World.cell?_drewN]
      exact cell?_putRow (fun (b : UInt8) => Value.int .u8 (b.toNat : Int)) _ w.heap.size 0 _ dk HH0.out (by rw [hF.size, Array.size_replicate]) j (by rw [hF.size]; rw [Lib.decDigits_length] at hj; exact hj))
    rw [Lib.decDigits_length] at h
    exact h
  obtain ⟨os, eo⟩ := Lib.fin_at w (.cells Lib.zeros24 198) dk k 0
  have hE : Ext w ((putRow (fun (b : UInt8) => Value.int .u8 (b.toNat : Int)) (w.alloc (.cells Lib.zeros24 198)) w.heap.size 0 dk).drewN k) := by rw [eo]; exact .of_below (Lib.below_grow w.heap.size w (Nat.le_refl _) k os)
  have HE := Lib.hid hE
  clear hE eo HH0 hfmt hF
  go_wp2
  go_ret
  exact ⟨rfl, HE.out⟩

set_option maxHeartbeats 3200000 in
set_option maxRecDepth 100000 in
theorem formatU_any {N : Nat} (u : Nat) (hu64 : u < 18446744073709551616) (w : World) (hT : Tb N w) :
    Calls Tryz.prog 33 #[.int .u64 u, .int .i64 10] w fun e w' => e = .returned (.string ⟨(Lib.decDigits u).toArray⟩) ∧ Ext w w' := by
  have h : Calls Tryz.prog 62 #[.int .u64 u, .int .i64 10] w fun e w' => e = .returned (.string ⟨(Lib.decDigits u).toArray⟩) ∧ Ext w w' := by
    by_cases hu : 100 ≤ u
    · exact formatU_big u hu hu64 w hT
    · have hlt : decide ((u : Int) < 100) = true := by simp; omega
      have hwr : IntKind.i64.wrap (u : Int) = (u : Int) := IntWalk.i64_in _ (by omega)
      go_enter Tryz.func62, Tryz.ntmps62
      go_wp2_with fail
      refine (Tryz.internal_strconv_small u (by omega) _).mono ?_
      rintro e w' ⟨rfl, rfl⟩
      go_wp2_with fail
      go_ret
      exact ⟨rfl, Ext.refl _⟩
  have H := Lib.hid h
  clear h
  go_enter Tryz.func33, Tryz.ntmps33
  go_wp2_with fail
  refine H.out.mono ?_
  rintro e w1 ⟨rfl, hE⟩
  have HE := Lib.hid hE
  clear hE
  go_wp2_with fail
  go_ret
  exact ⟨rfl, HE.out⟩
end Go.Proofs.YtgjgaeloehfhiaaGreatDoor
end
section
/- What the listed variables hold when the law is called. -/
namespace Go.Proofs.YtgjgaeloehfhiaaGreatDoor
open Go.RowKit

section
variable {H : Type} {enc : TypeId × Value → H} {P : Program} {w : World} {base : Nat} {sp : Nat → Bool} {held : Bool}

/-- A type of one cell that reads as a literal. -/
def Plain1 (P : Program) (t : TypeId) : Prop := P.underlying t = some .string ∨ P.underlying t = some .bool ∨ ∃ k, P.underlying t = some (.int k)
theorem plain_lit {fuel : Nat} {t : TypeId} {cs : List Value} {x : DataW H × List MemPlace} (ht : Plain1 P t) (h : DataW.trod enc P w base sp held fuel t cs = some x) : ∃ l : Lit, cs = [l.value] ∧ x = (.lit l, []) := by
  rcases ht with h1 | h1 | ⟨k, h1⟩
  · obtain ⟨s, rfl, rfl, _⟩ := DataW.trod_string h1 h
    exact ⟨.string s.data.toList, by simp [Lit.value], rfl⟩
  · obtain ⟨b, rfl, rfl⟩ := DataW.trod_bool h1 h
    exact ⟨.bool b, rfl, rfl⟩
  · obtain ⟨n, rfl, rfl, _⟩ := DataW.trod_int h1 h
    exact ⟨.int k n, rfl, rfl⟩

/-- A list cut into pieces of one length. -/
theorem chunks (m : Nat) : ∀ (L : List (List Value)) (cs : List Value), cs.length = L.length * m → (∀ i l, L[i]? = some l → (cs.drop (i * m)).take m = l) → cs = L.flatten
  | [], cs, hl, _ => by simpa using hl
  | l :: L, cs, hl, h => by
    have h0 := h 0 l rfl
    have ih := chunks m L (cs.drop m) (by rw [List.length_drop, hl, List.length_cons, Nat.succ_mul]; omega) (fun i x hx => by
      have h1 := h (i + 1) x (by simpa using hx)
      rw [List.drop_drop, show m + i * m = (i + 1) * m by rw [Nat.succ_mul]; omega]
      exact h1)
    simp only [Nat.zero_mul, List.drop_zero] at h0
    rw [List.flatten_cons, ← ih, ← h0, List.take_append_drop]

theorem struct_lits {fs : Array Field} {fuel : Nat} {t : TypeId} {cs : List Value} {ls : List Lit} {p : List MemPlace} (ht : P.underlying t = some (.struct fs)) (hf : ∀ (i : Nat) (f : Field), fs[i]? = some f → Plain1 P f.type ∧ f.offset = i ∧ P.cellsOf f.type = 1) (hc : P.cellsOf t = fs.size)
    (h : DataW.trod enc P w base sp held fuel t cs = some (.agg (ls.map .lit), p)) : cs = ls.map Lit.value := by
  obtain ⟨xs, n, rfl, hx, hl, hxl, he⟩ := DataW.trod_struct ht h
  injection hx with hx1 _
  injection hx1 with hx1
  have hll : ls.length = fs.size := by rw [← hxl]; have := congrArg List.length hx1; simpa using this
  apply List.ext_getElem?
  intro i
  by_cases hi : i < fs.size
  · obtain ⟨h1, h2, h3⟩ := hf i fs[i] (by simp [hi])
    have h4 := he i fs[i] (by simp [hi])
    have hxi : xs[i]? = some xs[i] := by simp [hxl, hi]
    rw [hxi, h2, h3] at h4
    obtain ⟨l, hc1, hx2⟩ := plain_lit h1 h4
    have h5 : cs[i]? = some l.value := by
      have := congrArg (·[0]?) hc1
      simpa [List.getElem?_take, List.getElem?_drop] using this
    have h6 : (ls.map (DataW.lit (H := H)))[i]? = some (.lit l) := by rw [hx1]; simp [hxl, hi, hx2]
    simp only [List.getElem?_map, Option.map_eq_some_iff, DataW.lit.injEq] at h6
    obtain ⟨l', hl', rfl⟩ := h6
    simp [h5, hl']
  · rw [List.getElem?_eq_none (by omega), List.getElem?_eq_none (by simp; omega)]

theorem array_chunks {n m : Nat} {e t : TypeId} {fuel : Nat} {cs : List Value} {D : List (DataW H)} {V : List (List Value)} {p : List MemPlace} (ht : P.underlying t = some (.array n e)) (hce : P.cellsOf e = m) (hct : P.cellsOf t = n * m) (hV : V.length = n)
    (he : ∀ (i : Nat) d v, D[i]? = some d → V[i]? = some v → ∀ fuel cs p, DataW.trod enc P w base sp held fuel e cs = some (d, p) → cs = v) (h : DataW.trod enc P w base sp held fuel t cs = some (.agg D, p)) : cs = V.flatten := by
  obtain ⟨xs, k, rfl, hx, hl, hxl, hel⟩ := DataW.trod_array ht h
  injection hx with hx1 _
  injection hx1 with hx1
  refine chunks m V cs (by rw [hl, hct, hV]) (fun i v hv => ?_)
  have hi : i < n := by rw [← hV]; exact (List.getElem?_eq_some_iff.1 hv).1
  have hxi : xs[i]? = some xs[i] := by simp [hxl, hi]
  have h4 := hel i hi
  rw [hxi, hce] at h4
  refine he i xs[i].1 v ?_ hv _ _ xs[i].2 h4
  rw [hx1]
  simp [hxl, hi]

/-- A table of rows of literals. -/
theorem table_cells {n : Nat} {e t : TypeId} {fs : Array Field} {fuel : Nat} {cs : List Value} (T : List (List Lit)) {p : List MemPlace} (ht : P.underlying t = some (.array n e)) (he : P.underlying e = some (.struct fs)) (hf : ∀ (i : Nat) (f : Field), fs[i]? = some f → Plain1 P f.type ∧ f.offset = i ∧ P.cellsOf f.type = 1)
    (hce : P.cellsOf e = fs.size) (hct : P.cellsOf t = n * fs.size) (hT : T.length = n) (h : DataW.trod enc P w base sp held fuel t cs = some (.agg (T.map fun ls => .agg (ls.map .lit)), p)) : cs = (T.map fun ls => ls.map Lit.value).flatten := by
  refine array_chunks ht hce hct (by simpa using hT) (fun i d v hd hv fuel cs p h => ?_) h
  rw [List.getElem?_map] at hd hv
  cases hq : T[i]? with
  | none => rw [hq] at hd; cases hd
  | some ls =>
    rw [hq] at hd hv
    cases hd
    cases hv
    exact struct_lits he hf hce h
theorem flat_one : ∀ T : List (List UInt8), (T.map fun s => [strV s]).flatten = T.map strV
  | [] => rfl
  | a :: l => by rw [List.map_cons, List.flatten_cons, flat_one l]; rfl
/-- A table of strings. -/
theorem strings_cells {n : Nat} {e t : TypeId} {fuel : Nat} {cs : List Value} (T : List (List UInt8)) {p : List MemPlace} (ht : P.underlying t = some (.array n e)) (he : P.underlying e = some .string) (hce : P.cellsOf e = 1) (hct : P.cellsOf t = n * 1) (hT : T.length = n)
    (h : DataW.trod enc P w base sp held fuel t cs = some (.agg (T.map fun s => .lit (.string s)), p)) : cs = T.map strV := by
  have h' := array_chunks (V := T.map fun s => [strV s]) ht hce hct (by simpa using hT) (fun i d v hd hv fuel cs p h => by
    rw [List.getElem?_map] at hd hv
    cases hq : T[i]? with
    | none => rw [hq] at hd; cases hd
    | some s =>
      rw [hq] at hd hv
      cases hd
      cases hv
      obtain ⟨s', rfl, hx, _⟩ := DataW.trod_string he h
      injection hx with hx _
      injection hx with hx
      injection hx with hx
      subst hx
      simp [strV]) h
  rw [h']
  exact flat_one T

theorem cells_at {name : String} {g : Nat} {cs : Array Value} (hg : P.globalNamed name = some g) (h : w.var? P name = some cs) : g < w.heap.size ∧ ∀ (j : Nat) v, cs.toList[j]? = some v → w.cell? ⟨g, j, none⟩ = some v := by
  refine ⟨?_, fun j v hv => by rw [World.var?_cell hg h]; simpa using hv⟩
  unfold World.var? at h
  rw [hg] at h
  simp only [Option.bind_some] at h
  by_cases hb : g < w.heap.size
  · exact hb
  · rw [Array.getElem?_eq_none (by omega)] at h; simp at h

/-- A listed variable's reading. -/
theorem laid_get : ∀ {l : List (String × DataW Unit)} {ps : List MemPlace}, DataW.LaidVars P w l ps → ∀ n d, (n, d) ∈ l → ∃ g t cs fuel p, P.globalNamed n = some g ∧ (P.globals[g]?).map (·.type) = some t ∧ w.var? P n = some cs ∧ DataW.trod (fun _ => ()) P w 0 (fun _ => true) false fuel t cs.toList = some (d, p)
  | [], _, _, _, _, h => by cases h
  | (n0, d0) :: l, ps, hv, n, d, h => by
    obtain ⟨g, t, cs, fuel, p, q, h1, h2, h3, h4, h5, -⟩ := hv
    rcases List.mem_cons.1 h with h | h
    · cases h
      exact ⟨g, t, cs, fuel, p, h1, h2, h3, h4⟩
    · exact laid_get h5 n d h
end
end Go.Proofs.YtgjgaeloehfhiaaGreatDoor
end
section
/- Instructions and words: known, register, fits. -/
namespace Go.Proofs.YtgjgaeloehfhiaaGreatDoor
open Go.RowKit

/-- The table's row of an operation. -/
def isaRow (op : Nat) : List UInt8 × Bool × Bool × Nat × Bool := isaT.getD op ([], false, false, 0, false)
def regOK (n : Int) (used : Bool) : Bool := decide (n = 0) || (used && decide (0 < n) && decide (n < 8))
def fitsB (kind : Nat) (n : Int) : Bool := if kind = 1 then decide (0 ≤ n) && decide (n ≤ 65535) else if kind = 2 then decide (-32768 ≤ n) && decide (n ≤ 32767) else decide (n = 0)

theorem isa_flat : ∀ (l : List (List UInt8 × Bool × Bool × Nat × Bool)) (k j : Nat), k < l.length → j < 5 → (l.flatMap fun x => [strV x.1, .bool x.2.1, .bool x.2.2.1, .int .i64 x.2.2.2.1, .bool x.2.2.2.2])[k * 5 + j]? =
    ([strV (l.getD k default).1, .bool (l.getD k default).2.1, .bool (l.getD k default).2.2.1, .int .i64 (l.getD k default).2.2.2.1, .bool (l.getD k default).2.2.2.2] : List Value)[j]?
  | [], k, j, h, _ => by simp at h
  | d :: ds, 0, j, _, hj => by
    rw [List.flatMap_cons, List.getElem?_append_left (by simp; omega)]
    simp
  | d :: ds, k + 1, j, h, hj => by
    rw [List.flatMap_cons, List.getElem?_append_right (by simp; omega)]
    have := isa_flat ds k j (by simpa using h) hj
    simp only [List.length_cons, List.length_nil, List.getD_cons_succ] at this ⊢
    rw [show (k + 1) * 5 + j - (0 + 1 + 1 + 1 + 1 + 1) = k * 5 + j by omega]
    exact this

theorem isa_cells {w : World} (h : CellsAt w 0 isaV) (op : Nat) (hop : op < 27) : w.cell? ⟨0, op * 5, none⟩ = some (strV (isaRow op).1) ∧ w.cell? ⟨0, op * 5 + 1, none⟩ = some (.bool (isaRow op).2.1) ∧ w.cell? ⟨0, op * 5 + 2, none⟩ = some (.bool (isaRow op).2.2.1) ∧
    w.cell? ⟨0, op * 5 + 3, none⟩ = some (.int .i64 (isaRow op).2.2.2.1) ∧ w.cell? ⟨0, op * 5 + 4, none⟩ = some (.bool (isaRow op).2.2.2.2) ∧ 0 < w.heap.size := by
  have hl : op < isaT.length := hop
  have hr : isaRow op = isaT.getD op default := rfl
  rw [hr]
  have hc := fun (j : Nat) (hj : j < 5) => isa_flat isaT op j hl hj
  have hv : isaV = isaT.flatMap fun x => [strV x.1, .bool x.2.1, .bool x.2.2.1, .int .i64 x.2.2.2.1, .bool x.2.2.2.2] := rfl
  refine ⟨h.2 (op * 5 + 0) _ ?_, h.2 (op * 5 + 1) _ ?_, h.2 (op * 5 + 2) _ ?_, h.2 (op * 5 + 3) _ ?_, h.2 (op * 5 + 4) _ ?_, h.1⟩
  · rw [hv, hc 0 (by omega)]; rfl
  · rw [hv, hc 1 (by omega)]; rfl
  · rw [hv, hc 2 (by omega)]; rfl
  · rw [hv, hc 3 (by omega)]; rfl
  · rw [hv, hc 4 (by omega)]; rfl

/-- Or of two numbers that share no bit. -/
theorem bits_or (x y : Nat) (hx : x < 4294967296) (hy : y < 4294967296) : Go.bits BinOp.or IntKind.u32 (x : Int) (y : Int) = ((x ||| y : Nat) : Int) := by
  have h1 : (x ||| y) < 4294967296 := Nat.or_lt_two_pow (n := 32) hx hy
  have ex : BitVec.ofInt 32 (x : Int) = BitVec.ofNat 32 x := by simp
  have ey : BitVec.ofInt 32 (y : Int) = BitVec.ofNat 32 y := by simp
  show IntKind.u32.wrap (((BitVec.ofInt 32 (x : Int)) ||| (BitVec.ofInt 32 (y : Int))).toNat : Int) = _
  rw [ex, ey, BitVec.toNat_or, BitVec.toNat_ofNat, BitVec.toNat_ofNat, Nat.mod_eq_of_lt hx, Nat.mod_eq_of_lt hy]
  exact IntWalk.u32_in _ (by omega)
theorem bits_and (x y : Nat) (hx : x < 4294967296) (hy : y < 4294967296) : Go.bits BinOp.and IntKind.u32 (x : Int) (y : Int) = ((x &&& y : Nat) : Int) := by
  have h1 : (x &&& y) ≤ x := Nat.and_le_left
  have ex : BitVec.ofInt 32 (x : Int) = BitVec.ofNat 32 x := by simp
  have ey : BitVec.ofInt 32 (y : Int) = BitVec.ofNat 32 y := by simp
  show IntKind.u32.wrap (((BitVec.ofInt 32 (x : Int)) &&& (BitVec.ofInt 32 (y : Int))).toNat : Int) = _
  rw [ex, ey, BitVec.toNat_and, BitVec.toNat_ofNat, BitVec.toNat_ofNat, Nat.mod_eq_of_lt hx, Nat.mod_eq_of_lt hy]
  exact IntWalk.u32_in _ (by omega)
theorem or_sum (h l i : Nat) (hl : l < 2 ^ i) : h * 2 ^ i ||| l = h * 2 ^ i + l := by
  have := Nat.shiftLeft_add_eq_or_of_lt hl h
  rw [Nat.shiftLeft_eq] at this
  exact this.symm
theorem bits_or24 (op a : Nat) (hop : op < 256) (ha : a < 16) : Go.bits BinOp.or IntKind.u32 ((op : Int) * 16777216) ((a : Int) * 1048576) = ((op * 16777216 + a * 1048576 : Nat) : Int) := by
  have h := bits_or (op * 16777216) (a * 1048576) (by omega) (by omega)
  rw [show op * 16777216 ||| a * 1048576 = op * 16777216 + a * 1048576 from or_sum op (a * 1048576) 24 (by omega)] at h
  rw [← h, Int.natCast_mul op, Int.natCast_mul a]
  rfl
theorem bits_or20 (x b : Nat) (hx : x < 4096) (hb : b < 16) : Go.bits BinOp.or IntKind.u32 ((x * 1048576 : Nat) : Int) ((b : Int) * 65536) = ((x * 1048576 + b * 65536 : Nat) : Int) := by
  have h := bits_or (x * 1048576) (b * 65536) (by omega) (by omega)
  rw [show x * 1048576 ||| b * 65536 = x * 1048576 + b * 65536 from or_sum x (b * 65536) 20 (by omega)] at h
  rw [← h, Int.natCast_mul b]
  rfl
theorem bits_or16 (x m : Nat) (hx : x < 65536) (hm : m < 65536) : Go.bits BinOp.or IntKind.u32 ((x * 65536 : Nat) : Int) (m : Int) = ((x * 65536 + m : Nat) : Int) := by
  have h := bits_or (x * 65536) m (by omega) (by omega)
  rw [show x * 65536 ||| m = x * 65536 + m from or_sum x m 16 (by omega)] at h
  exact h
/-- An instruction's word. -/
def encW (op a b : Nat) (imm : Int) : Nat := op * 16777216 + a * 1048576 + b * 65536 + (imm % 65536).toNat
theorem encW_lt {op a b : Nat} {imm : Int} (ho : op < 27) (ha : a < 8) (hb : b < 8) : encW op a b imm < 4294967296 := by
  unfold encW; omega
theorem enc_bits (op a b : Nat) (imm : Int) (ho : op < 27) (ha : a < 8) (hb : b < 8) :
    Go.bits BinOp.or IntKind.u32 (Go.bits BinOp.or IntKind.u32 (Go.bits BinOp.or IntKind.u32 ((op : Int) * 16777216) ((a : Int) * 1048576)) ((b : Int) * 65536)) (IntKind.u16.wrap imm % 4294967296) = ((encW op a b imm : Nat) : Int) := by
  have hm : IntKind.u16.wrap imm % 4294967296 = (((imm % 65536).toNat : Nat) : Int) := by
    have : IntKind.u16.wrap imm = imm % 65536 := by simp [IntKind.wrap, IntKind.bits, IntKind.signed]
    rw [this]
    omega
  rw [hm, bits_or24 op a (by omega) (by omega), show op * 16777216 + a * 1048576 = (op * 16 + a) * 1048576 by omega, bits_or20 _ b (by omega) (by omega), show (op * 16 + a) * 1048576 + b * 65536 = ((op * 16 + a) * 16 + b) * 65536 by omega, bits_or16 _ _ (by omega) (by omega)]
  unfold encW
  omega

set_option maxRecDepth 100000 in
theorem known_yes (n : Nat) (h0 : 0 < n) (h1 : n < 27) (w : World) : Calls Tryz.prog 29 #[.int .i64 n] w fun e w' => e = .returned (.bool true) ∧ w' = w := by
  go_enter Tryz.func29, Tryz.ntmps29
  go_wp2
  go_ret
  exact ⟨ret_bool (by simpa using (by omega : (n : Int) < 27)), rfl⟩

set_option maxRecDepth 100000 in
theorem register_yes (n : Nat) (used : Bool) (h : n = 0 ∨ (used = true ∧ n < 8)) (w : World) : Calls Tryz.prog 30 #[.int .i64 n, .bool used] w fun e w' => e = .returned (.bool true) ∧ w' = w := by
  by_cases h0 : n = 0
  · subst h0
    go_enter Tryz.func30, Tryz.ntmps30
    go_wp2
    go_ret
    exact ⟨rfl, rfl⟩
  · have h2 := h.resolve_left h0
    obtain ⟨rfl, h8⟩ := h2
    have hp : 0 < n := by omega
    have e0 : ((n : Int) == 0) = false := by rw [beq_eq_false_iff_ne]; omega
    clear h h0
    go_enter Tryz.func30, Tryz.ntmps30
    go_wp2
    go_ret
    exact ⟨ret_bool (by simpa using (by omega : (n : Int) < 8)), rfl⟩

set_option maxRecDepth 100000 in
theorem fits_yes (kind : Nat) (n : Int) (hk : kind = 0 ∧ n = 0 ∨ kind = 1 ∧ 0 ≤ n ∧ n ≤ 65535 ∨ kind = 2 ∧ -32768 ≤ n ∧ n ≤ 32767) (w : World) : Calls Tryz.prog 31 #[.int .i64 kind, .int .i64 n] w fun e w' => e = .returned (.bool true) ∧ w' = w := by
  rcases hk with ⟨rfl, rfl⟩ | ⟨rfl, h1, h2⟩ | ⟨rfl, h1, h2⟩
  · go_enter Tryz.func31, Tryz.ntmps31
    go_wp2
    go_ret
    exact ⟨rfl, rfl⟩
  · go_enter Tryz.func31, Tryz.ntmps31
    go_wp2
    go_ret
    exact ⟨rfl, rfl⟩
  · go_enter Tryz.func31, Tryz.ntmps31
    go_wp2
    go_ret
    exact ⟨rfl, rfl⟩

/-- An instruction that may be written. -/
structure InsOK (op a b : Nat) (imm : Int) : Prop where
  op0 : 0 < op
  op1 : op < 27
  a : a = 0 ∨ ((isaRow op).2.1 = true ∧ a < 8)
  b : b = 0 ∨ ((isaRow op).2.2.1 = true ∧ b < 8)
  imm : (isaRow op).2.2.2.1 = 0 ∧ imm = 0 ∨ (isaRow op).2.2.2.1 = 1 ∧ 0 ≤ imm ∧ imm ≤ 65535 ∨ (isaRow op).2.2.2.1 = 2 ∧ -32768 ≤ imm ∧ imm ≤ 32767

theorem regOK_lt {a : Nat} {u : Bool} (h : a = 0 ∨ (u = true ∧ a < 8)) : a < 8 := by rcases h with rfl | h <;> omega
theorem imm_lt {k : Nat} {imm : Int} (h : k = 0 ∧ imm = 0 ∨ k = 1 ∧ 0 ≤ imm ∧ imm ≤ 65535 ∨ k = 2 ∧ -32768 ≤ imm ∧ imm ≤ 32767) : -32768 ≤ imm ∧ imm ≤ 65535 := by omega

set_option maxRecDepth 100000 in
set_option maxHeartbeats 1600000 in
theorem encode_ok (op a b : Nat) (imm : Int) (hok : InsOK op a b imm) (w : World) (hg : CellsAt w 0 isaV) :
    Calls Tryz.prog 14 #[.agg #[.int .i64 op, .int .i64 a, .int .i64 b, .int .i64 imm]] w fun e w' => e = .returned (.tuple #[.int .u32 (encW op a b imm), .int .i64 0]) ∧ Ext w w' := by
  obtain ⟨ho0, ho1, ha, hb, hi⟩ := hok
  obtain ⟨c0, c1, c2, c3, c4, cs⟩ := isa_cells hg op ho1
  have ha8 := regOK_lt ha
  have hb8 := regOK_lt hb
  have hii := imm_lt hi
  have hk := fun w' => known_yes op ho0 ho1 w'
  have hra := fun w' => register_yes a _ ha w'
  have hrb := fun w' => register_yes b _ hb w'
  have hfi := fun w' => fits_yes _ imm hi w'
  clear ha hb hi
  generalize isaRow op = R at *
  obtain ⟨r0, r1, r2, r3, r4⟩ := R
  simp only at *
  go_enter Tryz.func14, Tryz.ntmps14
  go_wp2_with fail
  refine (hk _).mono ?_
  rintro e w1 ⟨rfl, rfl⟩
  go_wp2_with fail
  refine (hra _).mono ?_
  rintro e w1 ⟨rfl, rfl⟩
  go_wp2_with fail
  refine (hrb _).mono ?_
  rintro e w1 ⟨rfl, rfl⟩
  go_wp2_with fail
  refine (hfi _).mono ?_
  rintro e w1 ⟨rfl, rfl⟩
  go_wp2_with fail
  go_ret2
  rw [← enc_bits op a b imm ho1 ha8 hb8]
  exact ⟨rfl, ((Ext.refl w).alloc _).alloc _⟩
end Go.Proofs.YtgjgaeloehfhiaaGreatDoor
end
section
/- Words are decoded. -/
namespace Go.Proofs.YtgjgaeloehfhiaaGreatDoor
open Go.RowKit

theorem and15 (x : Nat) (hx : x < 4294967296) : Go.bits BinOp.and IntKind.u32 (x : Int) 15 = ((x % 16 : Nat) : Int) := by
  have h := bits_and x 15 hx (by omega)
  rw [show x &&& 15 = x % 16 from Nat.and_two_pow_sub_one_eq_mod x 4] at h
  exact h
theorem and16 (x : Nat) (hx : x < 4294967296) : Go.bits BinOp.and IntKind.u32 (x : Int) 65535 = ((x % 65536 : Nat) : Int) := by
  have h := bits_and x 65535 hx (by omega)
  rw [show x &&& 65535 = x % 65536 from Nat.and_two_pow_sub_one_eq_mod x 16] at h
  exact h

set_option maxRecDepth 100000 in
set_option maxHeartbeats 3200000 in
theorem decode_ok (op a b : Nat) (imm : Int) (hok : InsOK op a b imm) (w : World) (hg : CellsAt w 0 isaV) :
    Calls Tryz.prog 32 #[.int .u32 (encW op a b imm)] w fun e w' => e = .returned (.tuple #[.agg #[.int .i64 op, .int .i64 a, .int .i64 b, .int .i64 imm], .int .i64 0]) ∧ Ext w w' := by
  have hok' := hok
  obtain ⟨ho0, ho1, ha, hb, hi⟩ := hok
  have ha8 := regOK_lt ha
  have hb8 := regOK_lt hb
  have hii := imm_lt hi
  have hW : encW op a b imm = op * 16777216 + a * 1048576 + b * 65536 + (imm % 65536).toNat := rfl
  have hWlt := encW_lt (imm := imm) ho1 ha8 hb8
  have hen := fun w' (hE : Ext w w') => encode_ok op a b imm hok' w' (hg.keep hE)
  have hic := fun w' (hE : Ext w w') => isa_cells (hg.keep hE) op ho1
  have hk := fun w' => known_yes op ho0 ho1 w'
  generalize encW op a b imm = W at *
  have q1 : (W : Int) / 16777216 = (op : Int) := by omega
  have q2 : Go.bits BinOp.and IntKind.u32 ((W : Int) / 1048576) 15 = (a : Int) := by
    have h := and15 (W / 1048576) (by omega)
    rw [show ((W / 1048576 : Nat) : Int) = (W : Int) / 1048576 by omega] at h
    rw [h]; omega
  have q3 : Go.bits BinOp.and IntKind.u32 ((W : Int) / 65536) 15 = (b : Int) := by
    have h := and15 (W / 65536) (by omega)
    rw [show ((W / 65536 : Nat) : Int) = (W : Int) / 65536 by omega] at h
    rw [h]; omega
  have q4 : Go.bits BinOp.and IntKind.u32 (W : Int) 65535 = ((imm % 65536).toNat : Int) := by
    rw [and16 W hWlt]; omega
  obtain ⟨m, hm⟩ : ∃ m, m = (imm % 65536).toNat := ⟨_, rfl⟩
  rw [← hm] at q4
  have q5 : (isaRow op).2.2.2.1 = 2 → wrap64 (IntKind.i16.wrap (W : Int)) = imm := fun h2 => by
    have hrange : -32768 ≤ imm ∧ imm ≤ 32767 := by omega
    have : IntKind.i16.wrap (W : Int) = imm := by
      have h16 : IntKind.i16.wrap (W : Int) = if (32768 : Int) ≤ (W : Int) % 65536 then (W : Int) % 65536 - 65536 else (W : Int) % 65536 := by simp [IntKind.wrap, IntKind.bits, IntKind.signed]
      rw [h16]
      clear q1 q2 q3 q4 h16
      split <;> omega
    rw [this]
    simp only [wrap64]
    omega
  have ways : ((isaRow op).2.2.2.1 = 2) ∨ ((((isaRow op).2.2.2.1 : Int) == 2) = false ∧ (m : Int) = imm) := by
    rcases hi with ⟨h1, h2⟩ | ⟨h1, h2, h3⟩ | ⟨h1, h2, h3⟩
    · exact .inr ⟨by rw [h1]; rfl, by rw [hm, h2]; rfl⟩
    · exact .inr ⟨by rw [h1]; rfl, by rw [hm]; omega⟩
    · exact .inl h1
  have hmb : m < 65536 := by omega
  clear ha hb hi hW hm hok' hg
  obtain ⟨c0, c1, c2, c3, c4, cs⟩ := hic w (Ext.refl w)
  have HEN := Lib.hid hen
  generalize isaRow op = R at *
  obtain ⟨r0, r1, r2, r3, r4⟩ := R
  simp only at *
  clear hen
  go_enter Tryz.func32, Tryz.ntmps32
  go_wp2_with fail
  refine (hk _).mono ?_
  rintro e w1 ⟨rfl, rfl⟩
  rcases ways with rfl | ⟨h2, hmi⟩
  · have q6 := q5 rfl
    clear q5
    go_wp2_with fail
    refine (HEN.out _ (((Ext.refl w).alloc _).alloc _)).mono ?_
    rintro e w1 ⟨rfl, hE⟩
    have x1 := hE.size
    simp only [szA] at x1
    have b2 : w1.heap[w.heap.size]? = some (.cells #[.int .i64 0, .int .i64 0, .int .i64 0, .int .i64 0] 53 (0, 0)) := by
      rw [hE.block _ (by simp only [szA]; omega), heapA, if_neg (by rw [szA]; omega), heapA, if_pos rfl]
    have b4 : w1.heap[w.heap.size + 1]? = some (.cells #[.int .i64 op, .int .i64 a, .int .i64 b, .int .i64 imm] 53 (0, 0)) := by
      rw [hE.block _ (by simp only [szA]; omega), heapA, if_pos (by rw [szA])]
    obtain ⟨d0, d1, -⟩ := cells_of_heap b2
    obtain ⟨f0, -, -⟩ := cells_of_heap b4
    have e0 := d0 0
    have e1 := d0 1
    have e2 := d0 2
    have e3 := d0 3
    have g0 := d1 0
    have g1 := d1 1
    have g2 := d1 2
    have g3 := d1 3
    have h0 := f0 0
    have h1 := f0 1
    have h2 := f0 2
    have h3 := f0 3
    simp only [List.getElem?_toArray, List.getElem?_cons_zero, List.getElem?_cons_succ] at e0 e1 e2 e3 h0 h1 h2 h3
    have HE := Lib.hid hE
    have n1 : w.heap.size < w1.heap.size := by omega
    clear hE b2 b4 d0 d1 f0
    go_wp2_with fail
    refine bodyPost_ret (v := .tuple #[.agg #[.int .i64 op, .int .i64 a, .int .i64 b, .int .i64 imm], .int .i64 0]) (by simp [results, Tryz.results32, go_sem, *]) rfl ⟨rfl, ?_⟩
    repeat' (with_reducible first | exact (((Ext.refl w).alloc _).alloc _).trans HE.out | exact Nat.le_refl _ | apply Ext.drew | apply Ext.setCell)
  · subst hmi
    clear q5
    go_wp2_with fail
    refine (HEN.out _ (((Ext.refl w).alloc _).alloc _)).mono ?_
    rintro e w1 ⟨rfl, hE⟩
    have x1 := hE.size
    simp only [szA] at x1
    have b2 : w1.heap[w.heap.size]? = some (.cells #[.int .i64 0, .int .i64 0, .int .i64 0, .int .i64 0] 53 (0, 0)) := by
      rw [hE.block _ (by simp only [szA]; omega), heapA, if_neg (by rw [szA]; omega), heapA, if_pos rfl]
    have b4 : w1.heap[w.heap.size + 1]? = some (.cells #[.int .i64 op, .int .i64 a, .int .i64 b, .int .i64 m] 53 (0, 0)) := by
      rw [hE.block _ (by simp only [szA]; omega), heapA, if_pos (by rw [szA])]
    obtain ⟨d0, d1, -⟩ := cells_of_heap b2
    obtain ⟨f0, -, -⟩ := cells_of_heap b4
    have e0 := d0 0
    have e1 := d0 1
    have e2 := d0 2
    have e3 := d0 3
    have g0 := d1 0
    have g1 := d1 1
    have g2 := d1 2
    have g3 := d1 3
    have h0 := f0 0
    have h1 := f0 1
    have h2 := f0 2
    have h3 := f0 3
    simp only [List.getElem?_toArray, List.getElem?_cons_zero, List.getElem?_cons_succ] at e0 e1 e2 e3 h0 h1 h2 h3
    have HE := Lib.hid hE
    have n1 : w.heap.size < w1.heap.size := by omega
    clear hE b2 b4 d0 d1 f0
    go_wp2_with fail
    refine bodyPost_ret (v := .tuple #[.agg #[.int .i64 op, .int .i64 a, .int .i64 b, .int .i64 m], .int .i64 0]) (by simp [results, Tryz.results32, go_sem, *]) rfl ⟨rfl, ?_⟩
    repeat' (with_reducible first | exact (((Ext.refl w).alloc _).alloc _).trans HE.out | exact Nat.le_refl _ | apply Ext.drew | apply Ext.setCell)
end Go.Proofs.YtgjgaeloehfhiaaGreatDoor
end
