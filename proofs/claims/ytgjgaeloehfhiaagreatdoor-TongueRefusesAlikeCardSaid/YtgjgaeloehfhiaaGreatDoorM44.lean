/- The assembler: an operation's fields. -/
import Derived.Test.YtgjgaeloehfhiaaGreatDoorM43
import Derived.Test.YtgjgaeloehfhiaaGreatDoorM10
namespace Go.Proofs.YtgjgaeloehfhiaaGreatDoor
open Go.RowKit

/-- A line that was read, cell by cell. -/
def lineC (op a b : Nat) (imm : Int) : Array Value := #[.string ⟨#[]⟩, .bool false, .int .i64 1, .string ⟨#[]⟩, .bool false, .int .i64 op, .int .i64 a, .int .i64 b, .int .i64 imm, .int .u32 0, .bool false]

/-- The reader of fields at work: the line's block, the operation's row, the fields that are left. -/
structure OpAt (w0 wr : World) (lb : Nat) (lc oc : Array Value) (fv : Value) : Prop where
  kp : Kp lb w0 wr
  l : wr.heap[lb]? = some (.cells lc 87 (0, 0))
  o : wr.heap[w0.heap.size]? = some (.cells oc 103 (0, 0))
  f : wr.heap[w0.heap.size + 1]? = some (.cells #[fv] 34 (0, 0))
theorem OpAt.ext {w0 wr w' : World} {lb : Nat} {lc oc : Array Value} {fv : Value} (h : OpAt w0 wr lb lc oc fv) (hE : Ext wr w') : OpAt w0 w' lb lc oc fv :=
  ⟨h.kp.ext hE, (hE.block _ (heap_lt h.l)).trans h.l, (hE.block _ (heap_lt h.o)).trans h.o, (hE.block _ (heap_lt h.f)).trans h.f⟩
theorem OpAt.setF {w0 wr : World} {lb : Nat} {lc oc : Array Value} {fv : Value} (h : OpAt w0 wr lb lc oc fv) (hlb : lb < w0.heap.size) (fv' : Value) : OpAt w0 (wr.setCell ⟨w0.heap.size + 1, 0, none⟩ fv') lb lc oc fv' := by
  refine ⟨h.kp.setCell (p := ⟨w0.heap.size + 1, 0, none⟩) (.inr (by show w0.heap.size ≤ w0.heap.size + 1; omega)) _, ?_, ?_, ?_⟩
  · rw [heapS, if_neg (by omega)]; exact h.l
  · rw [heapS, if_neg (by omega)]; exact h.o
  · rw [heapS, if_pos rfl, h.f]; rfl
theorem OpAt.setL {w0 wr : World} {lb : Nat} {lc oc : Array Value} {fv : Value} (h : OpAt w0 wr lb lc oc fv) (hlb : lb < w0.heap.size) (i : Nat) (x : Value) : OpAt w0 (wr.setCell ⟨lb, i, none⟩ x) lb (lc.setIfInBounds i x) oc fv := by
  refine ⟨h.kp.setCell (p := ⟨lb, i, none⟩) (.inl rfl) _, ?_, ?_, ?_⟩
  · rw [heapS, if_pos rfl, h.l]; rfl
  · rw [heapS, if_neg (by omega)]; exact h.o
  · rw [heapS, if_neg (by omega)]; exact h.f
theorem OpAt.facts {w0 wr : World} {lb op a b : Nat} {imm : Int} {x0 x1 x2 x3 x4 fv : Value} (h : OpAt w0 wr lb (lineC op a b imm) #[x0, x1, x2, x3, x4] fv) :
    wr.cell? ⟨w0.heap.size, 1, none⟩ = some x1 ∧ wr.cell? ⟨w0.heap.size, 2, none⟩ = some x2 ∧ wr.cell? ⟨w0.heap.size, 3, none⟩ = some x3 ∧ wr.cell? ⟨w0.heap.size + 1, 0, none⟩ = some fv ∧
    wr.cell? ⟨lb, 6, none⟩ = some (.int .i64 a) ∧ wr.cell? ⟨lb, 7, none⟩ = some (.int .i64 b) ∧ wr.cell? ⟨lb, 8, none⟩ = some (.int .i64 imm) ∧ wr.frozen? ⟨lb, 6, none⟩ = false ∧ wr.frozen? ⟨lb, 7, none⟩ = false ∧ wr.frozen? ⟨lb, 8, none⟩ = false ∧ wr.frozen? ⟨w0.heap.size + 1, 0, none⟩ = false ∧ w0.heap.size + 1 < wr.heap.size := by
  obtain ⟨l1, l2, l3⟩ := cells_of_heap h.l
  obtain ⟨o1, o2, o3⟩ := cells_of_heap h.o
  obtain ⟨f1, f2, f3⟩ := cells_of_heap h.f
  exact ⟨o1 1, o1 2, o1 3, f1 0, l1 6, l1 7, l1 8, l2 6, l2 7, l2 8, f2 0, f3⟩
/-- The k-th field. -/
def FieldAt (w : World) (g k : Nat) (l : List UInt8) : Prop := ∃ s : ByteArray, w.cell? ⟨g, k, none⟩ = some (.string s) ∧ Str s l
theorem OpAt.field {w0 wr : World} {lb g k : Nat} {lc oc : Array Value} {fv : Value} {l : List UInt8} (h : OpAt w0 wr lb lc oc fv) (hg : g < w0.heap.size) (hgl : g ≠ lb) (hf : FieldAt w0 g k l) : FieldAt wr g k l := by
  obtain ⟨s, h1, h2⟩ := hf
  exact ⟨s, (h.kp.cell g k hg hgl).trans h1, h2⟩

theorem next_op {w0 wr : World} {lb g k n : Nat} {lc oc : Array Value} {v : Value} {l : List UInt8} (h : OpAt w0 wr lb lc oc v) (hlb : lb < w0.heap.size) (hv : RestV g k (n + 1) v) (hf : FieldAt w0 g k l) (hg : g < w0.heap.size) (hgl : g ≠ lb) (hn : n ≤ 10) :
    Calls Tryz.prog 131 #[.pointer (some ⟨w0.heap.size + 1, 0, none⟩)] wr fun e w' => ∃ (s : ByteArray) (v' : Value), e = .returned (.string s) ∧ Str s l ∧ RestV g (k + 1) n v' ∧ OpAt w0 w' lb lc oc v' := by
  obtain ⟨s, h1, h2⟩ := h.field hg hgl hf
  refine (field_next (w0.heap.size + 1) g k n s v wr hv h.f h1 hn).mono ?_
  rintro e w' ⟨rfl, v', hv', rfl⟩
  exact ⟨s, v', rfl, h2, hv', h.setF hlb v'⟩

set_option maxRecDepth 100000 in
set_option maxHeartbeats 12800000 in
theorem operands_core (op a b : Nat) (imm : Int) (nm : List UInt8) (r1 r2 : Bool) (kd : Nat) (r4 : Bool) (ha : a = 0 ∨ (r1 = true ∧ a < 8)) (hb : b = 0 ∨ (r2 = true ∧ b < 8)) (hi : kd = 0 ∧ imm = 0 ∨ kd = 1 ∧ 0 ≤ imm ∧ imm ≤ 65535 ∨ kd = 2 ∧ -32768 ≤ imm ∧ imm ≤ 32767)
    (F : List (List UInt8)) (hF : F = (if r1 then [114 :: Lib.decDigits a] else []) ++ (if r2 then [114 :: Lib.decDigits b] else []) ++ (if kd = 0 then [] else [Lib.itoa imm])) (w : World) (lb g : Nat) (va : Option Addr) (vn vc : Nat) (hlb : w.heap[lb]? = some (.cells (lineC op 0 0 0) 87 (0, 0)))
    (hv : RestV g 0 F.length (.slice va vn vc)) (hg : g < w.heap.size) (hgl : g ≠ lb) (hc : ∀ k, k < F.length → FieldAt w g k (F.getD k [])) :
    Calls Tryz.prog 90 #[.pointer (some ⟨lb, 0, none⟩), .agg #[.string ⟨nm.toArray⟩, .bool r1, .bool r2, .int .i64 kd, .bool r4], .slice va vn vc] w fun e w' => e = .returned (.bool true) ∧ w'.heap[lb]? = some (.cells (lineC op a b imm) 87 (0, 0)) ∧ Kp lb w w' := by
  have hlw := heap_lt hlb
  have n1 : w.heap.size ≠ lb := by omega
  have n2 : w.heap.size + 1 ≠ lb := by omega
  have n3 := n1.symm
  have n4 := n2.symm
  have hmf : ∀ (fn : Fn) (first cap : Array Value) (w : World), (Instr.makeFunc fn first cap).run Tryz.prog w = .ok (.func fn first cap) w := fun _ _ _ _ => rfl
  have ha8 : a < 8 := by rcases ha with rfl | h <;> omega
  have hb8 : b < 8 := by rcases hb with rfl | h <;> omega
  have him := imm_lt hi
  have hS : OpAt w ((w.alloc (.cells #[.string ⟨nm.toArray⟩, .bool r1, .bool r2, .int .i64 kd, .bool r4] 103)).alloc (.cells #[.slice va vn vc] 34)) lb (lineC op 0 0 0) #[.string ⟨nm.toArray⟩, .bool r1, .bool r2, .int .i64 kd, .bool r4] (.slice va vn vc) := by
    refine ⟨((Kp.refl lb w).alloc _).alloc _, ?_, ?_, ?_⟩
    · rw [heapA, if_neg (by rw [szA]; omega), heapA, if_neg (by omega)]; exact hlb
    · rw [heapA, if_neg (by rw [szA]; omega), heapA, if_pos rfl]
    · rw [heapA, if_pos (by rw [szA])]
  have HV := Lib.hid hv
  have HC := Lib.hid hc
  have HF := Lib.hid hF
  clear hv hc hF hlb
  cases r1 <;> cases r2 <;> rcases Nat.eq_zero_or_pos kd with rfl | hkd
  · obtain rfl : imm = 0 := by omega
    have hFF : F = [] := by rw [HF.out]; rfl
    obtain rfl : a = 0 := by rcases ha with h | h; exact h; exact absurd h.1 (by simp)
    obtain rfl : b = 0 := by rcases hb with h | h; exact h; exact absurd h.1 (by simp)
    subst hFF
    have HR0 : Hid (RestV g 0 0 (.slice va vn vc)) := HV
    obtain ⟨W0, hW0⟩ : ∃ W, ((w.alloc (.cells #[.string ⟨nm.toArray⟩, .bool false, .bool false, .int .i64 ((0 : Nat) : Int), .bool r4] 103)).alloc (.cells #[.slice va vn vc] 34)) = W := ⟨_, rfl⟩
    have HS0 := Lib.hid hS
    clear HC HV HF hS hW0 W0 ha hb
    go_enter Tryz.func90, Tryz.ntmps90
    go_wp2_with fail
    rcases HR0.out with ⟨-, za, zc, he⟩ | ⟨hh, -⟩
    rotate_left
    · omega
    injection he with e1 e2 e3
    subst e1 e2 e3
    go_wp2_with fail
    go_ret
    exact ⟨rfl, HS0.out.l, HS0.out.kp⟩
  · have hkn : ((kd : Int) != 0) = true := by rw [bne_iff_ne]; omega
    have hFF : F = [Lib.itoa imm] := by rw [HF.out, if_neg (show ¬ kd = 0 by omega)]; rfl
    obtain rfl : a = 0 := by rcases ha with h | h; exact h; exact absurd h.1 (by simp)
    obtain rfl : b = 0 := by rcases hb with h | h; exact h; exact absurd h.1 (by simp)
    subst hFF
    have h0 : FieldAt w g 0 (Lib.itoa imm) := HC.out 0 (by simp)
    have HK0 := Lib.hid h0
    clear h0
    have HR0 : Hid (RestV g 0 1 (.slice va vn vc)) := HV
    obtain ⟨W0, hW0⟩ : ∃ W, ((w.alloc (.cells #[.string ⟨nm.toArray⟩, .bool false, .bool false, .int .i64 kd, .bool r4] 103)).alloc (.cells #[.slice va vn vc] 34)) = W := ⟨_, rfl⟩
    have HS0 := Lib.hid hS
    clear HC HV HF hS hW0 W0 ha hb
    go_enter Tryz.func90, Tryz.ntmps90
    go_wp2_with fail
    refine (next_op (k := 0) (n := 0) HS0.out hlw HR0.out HK0.out hg hgl (by omega)).mono ?_
    rintro e w1 ⟨s0, v1, rfl, hs0, hv1, hS⟩
    have HS1 := Lib.hid hS
    have HR1 := Lib.hid hv1
    have HT0 := Lib.hid hs0
    clear hs0 hv1 hS HS0 HR0
    go_wp2_with fail
    refine (number_any imm him.1 him.2 s0 HT0.out _).mono ?_
    rintro e w2 ⟨rfl, hE⟩
    have HS2 := Lib.hid (HS1.out.ext hE)
    have HR2 := HR1
    clear hE HS1
    obtain ⟨b1, b2, b3, b4, l6, l7, l8, f6, f7, f8, f9, hz⟩ := HS2.out.facts
    have HS3 := Lib.hid (HS2.out.setL hlw 8 (.int .i64 imm))
    have HR3 := HR2
    clear HS2
    rcases HR3.out with ⟨-, za, zc, rfl⟩ | ⟨hh, -⟩
    rotate_left
    · omega
    go_wp2_with fail
    clear b1 b2 b3 b4 l6 l7 l8 f6 f7 f8 f9 hz
    obtain ⟨b1, b2, b3, b4, l6, l7, l8, f6, f7, f8, f9, hz⟩ := (HS3.out.ext (Ext.refl _).drew).facts
    refine wp_region_plan (fun w' => w'.cell? ⟨w.heap.size, 3, none⟩ = some (.int .i64 kd) ∧ w'.cell? ⟨lb, 8, none⟩ = some (.int .i64 imm)) [(0, true), (1, true), (2, true), (3, true), (4, true), (5, true), (6, true), (7, false), (8, true)] true (by kernel_rfl) (by kernel_rfl) (fun c a d v w h => by cases d <;> exact h) ⟨b3, l8⟩ ?_
    iterate 7 (refine ⟨_, ?_, rfl, Or.inl ⟨by rfl, ?_⟩, ?_⟩; rotate_left; (· intro w' hSw; (try dsimp only at hSw); go_simp; (try with_reducible rfl)); simp only [Act.put, List.setIfInBounds_toArray, List.set_cons_zero, List.set_cons_succ, List.getElem_toArray, List.getElem_cons_zero, List.getElem_cons_succ])
    refine wpPlan_act rfl (by rfl) (fun K hK => ?_)
    go_simp
    refine (fits_yes kd imm hi _).mono ?_
    rintro e w9 ⟨rfl, hw9⟩
    subst hw9
    refine hK _ _ (fun _ => ⟨b3, l8⟩) ?_
    clear hK K
    try simp only [Act.put, List.setIfInBounds_toArray, List.set_cons_zero, List.set_cons_succ]
    iterate 1 (refine ⟨_, ?_, rfl, Or.inl ⟨by rfl, ?_⟩, ?_⟩; rotate_left; (· intro w' hSw; (try dsimp only at hSw); go_simp; (try with_reducible rfl)); simp only [Act.put, List.setIfInBounds_toArray, List.set_cons_zero, List.set_cons_succ, List.getElem_toArray, List.getElem_cons_zero, List.getElem_cons_succ])
    refine ⟨rfl, ?_⟩
    go_wp2_with fail
    go_ret
    exact ⟨rfl, HS3.out.l, HS3.out.kp.drew⟩
  · obtain rfl : imm = 0 := by omega
    have hFF : F = [114 :: Lib.decDigits b] := by rw [HF.out]; rfl
    obtain rfl : a = 0 := by rcases ha with h | h; exact h; exact absurd h.1 (by simp)
    subst hFF
    have h0 : FieldAt w g 0 (114 :: Lib.decDigits b) := HC.out 0 (by simp)
    have HK0 := Lib.hid h0
    clear h0
    have HR0 : Hid (RestV g 0 1 (.slice va vn vc)) := HV
    obtain ⟨W0, hW0⟩ : ∃ W, ((w.alloc (.cells #[.string ⟨nm.toArray⟩, .bool false, .bool true, .int .i64 ((0 : Nat) : Int), .bool r4] 103)).alloc (.cells #[.slice va vn vc] 34)) = W := ⟨_, rfl⟩
    have HS0 := Lib.hid hS
    clear HC HV HF hS hW0 W0 ha hb
    go_enter Tryz.func90, Tryz.ntmps90
    go_wp2_with fail
    refine (next_op (k := 0) (n := 0) HS0.out hlw HR0.out HK0.out hg hgl (by omega)).mono ?_
    rintro e w1 ⟨s0, v1, rfl, hs0, hv1, hS⟩
    have HS1 := Lib.hid hS
    have HR1 := Lib.hid hv1
    have HT0 := Lib.hid hs0
    clear hs0 hv1 hS HS0 HR0
    go_wp2_with fail
    refine (reg_any b hb8 s0 HT0.out _).mono ?_
    rintro e w2 ⟨rfl, hE⟩
    have HS2 := Lib.hid (HS1.out.ext hE)
    have HR2 := HR1
    clear hE HS1
    obtain ⟨b1, b2, b3, b4, l6, l7, l8, f6, f7, f8, f9, hz⟩ := HS2.out.facts
    have HS3 := Lib.hid (HS2.out.setL hlw 7 (.int .i64 b))
    have HR3 := HR2
    clear HS2
    rcases HR3.out with ⟨-, za, zc, rfl⟩ | ⟨hh, -⟩
    rotate_left
    · omega
    go_wp2_with fail
    go_ret
    exact ⟨rfl, HS3.out.l, HS3.out.kp⟩
  · have hkn : ((kd : Int) != 0) = true := by rw [bne_iff_ne]; omega
    have hFF : F = [114 :: Lib.decDigits b, Lib.itoa imm] := by rw [HF.out, if_neg (show ¬ kd = 0 by omega)]; rfl
    obtain rfl : a = 0 := by rcases ha with h | h; exact h; exact absurd h.1 (by simp)
    subst hFF
    have h0 : FieldAt w g 0 (114 :: Lib.decDigits b) := HC.out 0 (by simp)
    have HK0 := Lib.hid h0
    clear h0
    have h1 : FieldAt w g 1 (Lib.itoa imm) := HC.out 1 (by simp)
    have HK1 := Lib.hid h1
    clear h1
    have HR0 : Hid (RestV g 0 2 (.slice va vn vc)) := HV
    obtain ⟨W0, hW0⟩ : ∃ W, ((w.alloc (.cells #[.string ⟨nm.toArray⟩, .bool false, .bool true, .int .i64 kd, .bool r4] 103)).alloc (.cells #[.slice va vn vc] 34)) = W := ⟨_, rfl⟩
    have HS0 := Lib.hid hS
    clear HC HV HF hS hW0 W0 ha hb
    go_enter Tryz.func90, Tryz.ntmps90
    go_wp2_with fail
    refine (next_op (k := 0) (n := 1) HS0.out hlw HR0.out HK0.out hg hgl (by omega)).mono ?_
    rintro e w1 ⟨s0, v1, rfl, hs0, hv1, hS⟩
    have HS1 := Lib.hid hS
    have HR1 := Lib.hid hv1
    have HT0 := Lib.hid hs0
    clear hs0 hv1 hS HS0 HR0
    go_wp2_with fail
    refine (reg_any b hb8 s0 HT0.out _).mono ?_
    rintro e w2 ⟨rfl, hE⟩
    have HS2 := Lib.hid (HS1.out.ext hE)
    have HR2 := HR1
    clear hE HS1
    obtain ⟨b1, b2, b3, b4, l6, l7, l8, f6, f7, f8, f9, hz⟩ := HS2.out.facts
    have HS3 := Lib.hid (HS2.out.setL hlw 7 (.int .i64 b))
    have HR3 := HR2
    clear HS2
    go_wp2_with fail
    refine (next_op (k := 1) (n := 0) HS3.out hlw HR3.out HK1.out hg hgl (by omega)).mono ?_
    rintro e w4 ⟨s1, v4, rfl, hs1, hv4, hS⟩
    have HS4 := Lib.hid hS
    have HR4 := Lib.hid hv4
    have HT1 := Lib.hid hs1
    clear hs1 hv4 hS HS3 HR3 b1 b2 b3 b4 l6 l7 l8 f6 f7 f8 f9 hz
    go_wp2_with fail
    refine (number_any imm him.1 him.2 s1 HT1.out _).mono ?_
    rintro e w5 ⟨rfl, hE⟩
    have HS5 := Lib.hid (HS4.out.ext hE)
    have HR5 := HR4
    clear hE HS4
    obtain ⟨b1, b2, b3, b4, l6, l7, l8, f6, f7, f8, f9, hz⟩ := HS5.out.facts
    have HS6 := Lib.hid (HS5.out.setL hlw 8 (.int .i64 imm))
    have HR6 := HR5
    clear HS5
    rcases HR6.out with ⟨-, za, zc, rfl⟩ | ⟨hh, -⟩
    rotate_left
    · omega
    go_wp2_with fail
    clear b1 b2 b3 b4 l6 l7 l8 f6 f7 f8 f9 hz
    obtain ⟨b1, b2, b3, b4, l6, l7, l8, f6, f7, f8, f9, hz⟩ := (HS6.out.ext (Ext.refl _).drew).facts
    refine wp_region_plan (fun w' => w'.cell? ⟨w.heap.size, 3, none⟩ = some (.int .i64 kd) ∧ w'.cell? ⟨lb, 8, none⟩ = some (.int .i64 imm)) [(0, true), (1, true), (2, true), (3, true), (4, true), (5, true), (6, true), (7, false), (8, true)] true (by kernel_rfl) (by kernel_rfl) (fun c a d v w h => by cases d <;> exact h) ⟨b3, l8⟩ ?_
    iterate 7 (refine ⟨_, ?_, rfl, Or.inl ⟨by rfl, ?_⟩, ?_⟩; rotate_left; (· intro w' hSw; (try dsimp only at hSw); go_simp; (try with_reducible rfl)); simp only [Act.put, List.setIfInBounds_toArray, List.set_cons_zero, List.set_cons_succ, List.getElem_toArray, List.getElem_cons_zero, List.getElem_cons_succ])
    refine wpPlan_act rfl (by rfl) (fun K hK => ?_)
    go_simp
    refine (fits_yes kd imm hi _).mono ?_
    rintro e w9 ⟨rfl, hw9⟩
    subst hw9
    refine hK _ _ (fun _ => ⟨b3, l8⟩) ?_
    clear hK K
    try simp only [Act.put, List.setIfInBounds_toArray, List.set_cons_zero, List.set_cons_succ]
    iterate 1 (refine ⟨_, ?_, rfl, Or.inl ⟨by rfl, ?_⟩, ?_⟩; rotate_left; (· intro w' hSw; (try dsimp only at hSw); go_simp; (try with_reducible rfl)); simp only [Act.put, List.setIfInBounds_toArray, List.set_cons_zero, List.set_cons_succ, List.getElem_toArray, List.getElem_cons_zero, List.getElem_cons_succ])
    refine ⟨rfl, ?_⟩
    go_wp2_with fail
    go_ret
    exact ⟨rfl, HS6.out.l, HS6.out.kp.drew⟩
  · obtain rfl : imm = 0 := by omega
    have hFF : F = [114 :: Lib.decDigits a] := by rw [HF.out]; rfl
    obtain rfl : b = 0 := by rcases hb with h | h; exact h; exact absurd h.1 (by simp)
    subst hFF
    have h0 : FieldAt w g 0 (114 :: Lib.decDigits a) := HC.out 0 (by simp)
    have HK0 := Lib.hid h0
    clear h0
    have HR0 : Hid (RestV g 0 1 (.slice va vn vc)) := HV
    obtain ⟨W0, hW0⟩ : ∃ W, ((w.alloc (.cells #[.string ⟨nm.toArray⟩, .bool true, .bool false, .int .i64 ((0 : Nat) : Int), .bool r4] 103)).alloc (.cells #[.slice va vn vc] 34)) = W := ⟨_, rfl⟩
    have HS0 := Lib.hid hS
    clear HC HV HF hS hW0 W0 ha hb
    go_enter Tryz.func90, Tryz.ntmps90
    go_wp2_with fail
    refine (next_op (k := 0) (n := 0) HS0.out hlw HR0.out HK0.out hg hgl (by omega)).mono ?_
    rintro e w1 ⟨s0, v1, rfl, hs0, hv1, hS⟩
    have HS1 := Lib.hid hS
    have HR1 := Lib.hid hv1
    have HT0 := Lib.hid hs0
    clear hs0 hv1 hS HS0 HR0
    go_wp2_with fail
    refine (reg_any a ha8 s0 HT0.out _).mono ?_
    rintro e w2 ⟨rfl, hE⟩
    have HS2 := Lib.hid (HS1.out.ext hE)
    have HR2 := HR1
    clear hE HS1
    obtain ⟨b1, b2, b3, b4, l6, l7, l8, f6, f7, f8, f9, hz⟩ := HS2.out.facts
    have HS3 := Lib.hid (HS2.out.setL hlw 6 (.int .i64 a))
    have HR3 := HR2
    clear HS2
    rcases HR3.out with ⟨-, za, zc, rfl⟩ | ⟨hh, -⟩
    rotate_left
    · omega
    go_wp2_with fail
    go_ret
    exact ⟨rfl, HS3.out.l, HS3.out.kp⟩
  · have hkn : ((kd : Int) != 0) = true := by rw [bne_iff_ne]; omega
    have hFF : F = [114 :: Lib.decDigits a, Lib.itoa imm] := by rw [HF.out, if_neg (show ¬ kd = 0 by omega)]; rfl
    obtain rfl : b = 0 := by rcases hb with h | h; exact h; exact absurd h.1 (by simp)
    subst hFF
    have h0 : FieldAt w g 0 (114 :: Lib.decDigits a) := HC.out 0 (by simp)
    have HK0 := Lib.hid h0
    clear h0
    have h1 : FieldAt w g 1 (Lib.itoa imm) := HC.out 1 (by simp)
    have HK1 := Lib.hid h1
    clear h1
    have HR0 : Hid (RestV g 0 2 (.slice va vn vc)) := HV
    obtain ⟨W0, hW0⟩ : ∃ W, ((w.alloc (.cells #[.string ⟨nm.toArray⟩, .bool true, .bool false, .int .i64 kd, .bool r4] 103)).alloc (.cells #[.slice va vn vc] 34)) = W := ⟨_, rfl⟩
    have HS0 := Lib.hid hS
    clear HC HV HF hS hW0 W0 ha hb
    go_enter Tryz.func90, Tryz.ntmps90
    go_wp2_with fail
    refine (next_op (k := 0) (n := 1) HS0.out hlw HR0.out HK0.out hg hgl (by omega)).mono ?_
    rintro e w1 ⟨s0, v1, rfl, hs0, hv1, hS⟩
    have HS1 := Lib.hid hS
    have HR1 := Lib.hid hv1
    have HT0 := Lib.hid hs0
    clear hs0 hv1 hS HS0 HR0
    go_wp2_with fail
    refine (reg_any a ha8 s0 HT0.out _).mono ?_
    rintro e w2 ⟨rfl, hE⟩
    have HS2 := Lib.hid (HS1.out.ext hE)
    have HR2 := HR1
    clear hE HS1
    obtain ⟨b1, b2, b3, b4, l6, l7, l8, f6, f7, f8, f9, hz⟩ := HS2.out.facts
    have HS3 := Lib.hid (HS2.out.setL hlw 6 (.int .i64 a))
    have HR3 := HR2
    clear HS2
    go_wp2_with fail
    refine (next_op (k := 1) (n := 0) HS3.out hlw HR3.out HK1.out hg hgl (by omega)).mono ?_
    rintro e w4 ⟨s1, v4, rfl, hs1, hv4, hS⟩
    have HS4 := Lib.hid hS
    have HR4 := Lib.hid hv4
    have HT1 := Lib.hid hs1
    clear hs1 hv4 hS HS3 HR3 b1 b2 b3 b4 l6 l7 l8 f6 f7 f8 f9 hz
    go_wp2_with fail
    refine (number_any imm him.1 him.2 s1 HT1.out _).mono ?_
    rintro e w5 ⟨rfl, hE⟩
    have HS5 := Lib.hid (HS4.out.ext hE)
    have HR5 := HR4
    clear hE HS4
    obtain ⟨b1, b2, b3, b4, l6, l7, l8, f6, f7, f8, f9, hz⟩ := HS5.out.facts
    have HS6 := Lib.hid (HS5.out.setL hlw 8 (.int .i64 imm))
    have HR6 := HR5
    clear HS5
    rcases HR6.out with ⟨-, za, zc, rfl⟩ | ⟨hh, -⟩
    rotate_left
    · omega
    go_wp2_with fail
    clear b1 b2 b3 b4 l6 l7 l8 f6 f7 f8 f9 hz
    obtain ⟨b1, b2, b3, b4, l6, l7, l8, f6, f7, f8, f9, hz⟩ := (HS6.out.ext (Ext.refl _).drew).facts
    refine wp_region_plan (fun w' => w'.cell? ⟨w.heap.size, 3, none⟩ = some (.int .i64 kd) ∧ w'.cell? ⟨lb, 8, none⟩ = some (.int .i64 imm)) [(0, true), (1, true), (2, true), (3, true), (4, true), (5, true), (6, true), (7, false), (8, true)] true (by kernel_rfl) (by kernel_rfl) (fun c a d v w h => by cases d <;> exact h) ⟨b3, l8⟩ ?_
    iterate 7 (refine ⟨_, ?_, rfl, Or.inl ⟨by rfl, ?_⟩, ?_⟩; rotate_left; (· intro w' hSw; (try dsimp only at hSw); go_simp; (try with_reducible rfl)); simp only [Act.put, List.setIfInBounds_toArray, List.set_cons_zero, List.set_cons_succ, List.getElem_toArray, List.getElem_cons_zero, List.getElem_cons_succ])
    refine wpPlan_act rfl (by rfl) (fun K hK => ?_)
    go_simp
    refine (fits_yes kd imm hi _).mono ?_
    rintro e w9 ⟨rfl, hw9⟩
    subst hw9
    refine hK _ _ (fun _ => ⟨b3, l8⟩) ?_
    clear hK K
    try simp only [Act.put, List.setIfInBounds_toArray, List.set_cons_zero, List.set_cons_succ]
    iterate 1 (refine ⟨_, ?_, rfl, Or.inl ⟨by rfl, ?_⟩, ?_⟩; rotate_left; (· intro w' hSw; (try dsimp only at hSw); go_simp; (try with_reducible rfl)); simp only [Act.put, List.setIfInBounds_toArray, List.set_cons_zero, List.set_cons_succ, List.getElem_toArray, List.getElem_cons_zero, List.getElem_cons_succ])
    refine ⟨rfl, ?_⟩
    go_wp2_with fail
    go_ret
    exact ⟨rfl, HS6.out.l, HS6.out.kp.drew⟩
  · obtain rfl : imm = 0 := by omega
    have hFF : F = [114 :: Lib.decDigits a, 114 :: Lib.decDigits b] := by rw [HF.out]; rfl
    subst hFF
    have h0 : FieldAt w g 0 (114 :: Lib.decDigits a) := HC.out 0 (by simp)
    have HK0 := Lib.hid h0
    clear h0
    have h1 : FieldAt w g 1 (114 :: Lib.decDigits b) := HC.out 1 (by simp)
    have HK1 := Lib.hid h1
    clear h1
    have HR0 : Hid (RestV g 0 2 (.slice va vn vc)) := HV
    obtain ⟨W0, hW0⟩ : ∃ W, ((w.alloc (.cells #[.string ⟨nm.toArray⟩, .bool true, .bool true, .int .i64 ((0 : Nat) : Int), .bool r4] 103)).alloc (.cells #[.slice va vn vc] 34)) = W := ⟨_, rfl⟩
    have HS0 := Lib.hid hS
    clear HC HV HF hS hW0 W0 ha hb
    go_enter Tryz.func90, Tryz.ntmps90
    go_wp2_with fail
    refine (next_op (k := 0) (n := 1) HS0.out hlw HR0.out HK0.out hg hgl (by omega)).mono ?_
    rintro e w1 ⟨s0, v1, rfl, hs0, hv1, hS⟩
    have HS1 := Lib.hid hS
    have HR1 := Lib.hid hv1
    have HT0 := Lib.hid hs0
    clear hs0 hv1 hS HS0 HR0
    go_wp2_with fail
    refine (reg_any a ha8 s0 HT0.out _).mono ?_
    rintro e w2 ⟨rfl, hE⟩
    have HS2 := Lib.hid (HS1.out.ext hE)
    have HR2 := HR1
    clear hE HS1
    obtain ⟨b1, b2, b3, b4, l6, l7, l8, f6, f7, f8, f9, hz⟩ := HS2.out.facts
    have HS3 := Lib.hid (HS2.out.setL hlw 6 (.int .i64 a))
    have HR3 := HR2
    clear HS2
    go_wp2_with fail
    refine (next_op (k := 1) (n := 0) HS3.out hlw HR3.out HK1.out hg hgl (by omega)).mono ?_
    rintro e w4 ⟨s1, v4, rfl, hs1, hv4, hS⟩
    have HS4 := Lib.hid hS
    have HR4 := Lib.hid hv4
    have HT1 := Lib.hid hs1
    clear hs1 hv4 hS HS3 HR3 b1 b2 b3 b4 l6 l7 l8 f6 f7 f8 f9 hz
    go_wp2_with fail
    refine (reg_any b hb8 s1 HT1.out _).mono ?_
    rintro e w5 ⟨rfl, hE⟩
    have HS5 := Lib.hid (HS4.out.ext hE)
    have HR5 := HR4
    clear hE HS4
    obtain ⟨b1, b2, b3, b4, l6, l7, l8, f6, f7, f8, f9, hz⟩ := HS5.out.facts
    have HS6 := Lib.hid (HS5.out.setL hlw 7 (.int .i64 b))
    have HR6 := HR5
    clear HS5
    rcases HR6.out with ⟨-, za, zc, rfl⟩ | ⟨hh, -⟩
    rotate_left
    · omega
    go_wp2_with fail
    go_ret
    exact ⟨rfl, HS6.out.l, HS6.out.kp⟩
  · have hkn : ((kd : Int) != 0) = true := by rw [bne_iff_ne]; omega
    have hFF : F = [114 :: Lib.decDigits a, 114 :: Lib.decDigits b, Lib.itoa imm] := by rw [HF.out, if_neg (show ¬ kd = 0 by omega)]; rfl
    subst hFF
    have h0 : FieldAt w g 0 (114 :: Lib.decDigits a) := HC.out 0 (by simp)
    have HK0 := Lib.hid h0
    clear h0
    have h1 : FieldAt w g 1 (114 :: Lib.decDigits b) := HC.out 1 (by simp)
    have HK1 := Lib.hid h1
    clear h1
    have h2 : FieldAt w g 2 (Lib.itoa imm) := HC.out 2 (by simp)
    have HK2 := Lib.hid h2
    clear h2
    have HR0 : Hid (RestV g 0 3 (.slice va vn vc)) := HV
    obtain ⟨W0, hW0⟩ : ∃ W, ((w.alloc (.cells #[.string ⟨nm.toArray⟩, .bool true, .bool true, .int .i64 kd, .bool r4] 103)).alloc (.cells #[.slice va vn vc] 34)) = W := ⟨_, rfl⟩
    have HS0 := Lib.hid hS
    clear HC HV HF hS hW0 W0 ha hb
    go_enter Tryz.func90, Tryz.ntmps90
    go_wp2_with fail
    refine (next_op (k := 0) (n := 2) HS0.out hlw HR0.out HK0.out hg hgl (by omega)).mono ?_
    rintro e w1 ⟨s0, v1, rfl, hs0, hv1, hS⟩
    have HS1 := Lib.hid hS
    have HR1 := Lib.hid hv1
    have HT0 := Lib.hid hs0
    clear hs0 hv1 hS HS0 HR0
    go_wp2_with fail
    refine (reg_any a ha8 s0 HT0.out _).mono ?_
    rintro e w2 ⟨rfl, hE⟩
    have HS2 := Lib.hid (HS1.out.ext hE)
    have HR2 := HR1
    clear hE HS1
    obtain ⟨b1, b2, b3, b4, l6, l7, l8, f6, f7, f8, f9, hz⟩ := HS2.out.facts
    have HS3 := Lib.hid (HS2.out.setL hlw 6 (.int .i64 a))
    have HR3 := HR2
    clear HS2
    go_wp2_with fail
    refine (next_op (k := 1) (n := 1) HS3.out hlw HR3.out HK1.out hg hgl (by omega)).mono ?_
    rintro e w4 ⟨s1, v4, rfl, hs1, hv4, hS⟩
    have HS4 := Lib.hid hS
    have HR4 := Lib.hid hv4
    have HT1 := Lib.hid hs1
    clear hs1 hv4 hS HS3 HR3 b1 b2 b3 b4 l6 l7 l8 f6 f7 f8 f9 hz
    go_wp2_with fail
    refine (reg_any b hb8 s1 HT1.out _).mono ?_
    rintro e w5 ⟨rfl, hE⟩
    have HS5 := Lib.hid (HS4.out.ext hE)
    have HR5 := HR4
    clear hE HS4
    obtain ⟨b1, b2, b3, b4, l6, l7, l8, f6, f7, f8, f9, hz⟩ := HS5.out.facts
    have HS6 := Lib.hid (HS5.out.setL hlw 7 (.int .i64 b))
    have HR6 := HR5
    clear HS5
    go_wp2_with fail
    refine (next_op (k := 2) (n := 0) HS6.out hlw HR6.out HK2.out hg hgl (by omega)).mono ?_
    rintro e w7 ⟨s2, v7, rfl, hs2, hv7, hS⟩
    have HS7 := Lib.hid hS
    have HR7 := Lib.hid hv7
    have HT2 := Lib.hid hs2
    clear hs2 hv7 hS HS6 HR6 b1 b2 b3 b4 l6 l7 l8 f6 f7 f8 f9 hz
    go_wp2_with fail
    refine (number_any imm him.1 him.2 s2 HT2.out _).mono ?_
    rintro e w8 ⟨rfl, hE⟩
    have HS8 := Lib.hid (HS7.out.ext hE)
    have HR8 := HR7
    clear hE HS7
    obtain ⟨b1, b2, b3, b4, l6, l7, l8, f6, f7, f8, f9, hz⟩ := HS8.out.facts
    have HS9 := Lib.hid (HS8.out.setL hlw 8 (.int .i64 imm))
    have HR9 := HR8
    clear HS8
    rcases HR9.out with ⟨-, za, zc, rfl⟩ | ⟨hh, -⟩
    rotate_left
    · omega
    go_wp2_with fail
    clear b1 b2 b3 b4 l6 l7 l8 f6 f7 f8 f9 hz
    obtain ⟨b1, b2, b3, b4, l6, l7, l8, f6, f7, f8, f9, hz⟩ := (HS9.out.ext (Ext.refl _).drew).facts
    refine wp_region_plan (fun w' => w'.cell? ⟨w.heap.size, 3, none⟩ = some (.int .i64 kd) ∧ w'.cell? ⟨lb, 8, none⟩ = some (.int .i64 imm)) [(0, true), (1, true), (2, true), (3, true), (4, true), (5, true), (6, true), (7, false), (8, true)] true (by kernel_rfl) (by kernel_rfl) (fun c a d v w h => by cases d <;> exact h) ⟨b3, l8⟩ ?_
    iterate 7 (refine ⟨_, ?_, rfl, Or.inl ⟨by rfl, ?_⟩, ?_⟩; rotate_left; (· intro w' hSw; (try dsimp only at hSw); go_simp; (try with_reducible rfl)); simp only [Act.put, List.setIfInBounds_toArray, List.set_cons_zero, List.set_cons_succ, List.getElem_toArray, List.getElem_cons_zero, List.getElem_cons_succ])
    refine wpPlan_act rfl (by rfl) (fun K hK => ?_)
    go_simp
    refine (fits_yes kd imm hi _).mono ?_
    rintro e w9 ⟨rfl, hw9⟩
    subst hw9
    refine hK _ _ (fun _ => ⟨b3, l8⟩) ?_
    clear hK K
    try simp only [Act.put, List.setIfInBounds_toArray, List.set_cons_zero, List.set_cons_succ]
    iterate 1 (refine ⟨_, ?_, rfl, Or.inl ⟨by rfl, ?_⟩, ?_⟩; rotate_left; (· intro w' hSw; (try dsimp only at hSw); go_simp; (try with_reducible rfl)); simp only [Act.put, List.setIfInBounds_toArray, List.set_cons_zero, List.set_cons_succ, List.getElem_toArray, List.getElem_cons_zero, List.getElem_cons_succ])
    refine ⟨rfl, ?_⟩
    go_wp2_with fail
    go_ret
    exact ⟨rfl, HS9.out.l, HS9.out.kp.drew⟩
end Go.Proofs.YtgjgaeloehfhiaaGreatDoor
