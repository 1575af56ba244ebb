/- The reader's operands: ask, round brackets, signs. -/
import Derived.Test.YtgjgaeloehfhiaaGreatDoorM12
namespace Go.Proofs.YtgjgaeloehfhiaaGreatDoor
open Go.RowKit

set_option maxRecDepth 100000 in
set_option maxHeartbeats 1000000 in
theorem operand_ask {toks : List Tok} {f : Nat} {rb lb cap at_ : Nat} (w : World) (h : RdAt w rb lb cap toks at_) (h3 : (toks.getD at_ default).kind ≠ 3) (h2 : (toks.getD at_ default).kind ≠ 2) (h4 : isB (toks.getD at_ default) ⟨#[97, 115, 107]⟩ = true) :
    Calls Tryz.prog 136 #[.pointer (some ⟨rb, 0, none⟩)] w (PPost w rb lb cap toks (pr toks (f + 1) .operand at_)) := by
  have hspec : pr toks (f + 1) .operand at_ = .ok (.exp 1 (toks.getD at_ default) (toks.getD at_ default).line .nil .nil, at_ + 1) := by simp only [pr]; rw [if_neg h3, if_neg h2, if_pos h4]
  rw [hspec]; clear hspec
  have hp := fun w' (hb : Ext w w') => peek_any w' (h.keep hb)
  have hA := fun w' (hb : Ext w w') => may_yes w' ⟨#[97, 115, 107]⟩ (h.keep hb) h4
  clear h4
  have e3 : (((toks.getD at_ default).kind : Int) == 3) = false := by rw [beq_eq_false_iff_ne]; omega
  have e2 : (((toks.getD at_ default).kind : Int) == 2) = false := by rw [beq_eq_false_iff_ne]; omega
  obtain ⟨c0, c1, f1, s1, b1, b2⟩ := h.cells
  have sl := h.sl
  have HH := Lib.hid h
  clear h h2 h3
  generalize (toks.getD at_ default) = t at *
  obtain ⟨kind, text, line, num⟩ := t
  simp only at e2 e3
  go_enter Tryz.func136, Tryz.ntmps136
  go_wp2_with fail
  refine (hp _ (Ext.refl _)).mono ?_
  rintro e w1 ⟨rfl, hb⟩
  have s2 := hb.size
  go_wp2_with fail
  refine (hA _ ((hb.alloc _).alloc _)).mono ?_
  rintro e w2 ⟨rfl, hk, hr⟩
  have x2 := hk.size
  simp only [szA] at x2
  have HE2 : Hid (w2.heap[w1.heap.size + 1]? = some (.cells #[.int .i64 0, .int .i64 kind, .string text, .int .i64 line, .int .u32 num, .int .i64 line, .pointer none, .pointer none] 197 (0, 0))) := by
    show _ = _
    rw [hk.heap _ (by simp only [szA]; omega) (by omega), heapA, if_pos (by rw [szA])]
  obtain ⟨q1, q2, q3⟩ := cells_of_heap HE2.out
  have HK2 := Lib.hid ((hb.alloc _).alloc _ |>.kp rb |>.trans hk)
  have HR2 := Lib.hid hr
  clear hk hr hb
  go_wp2_with fail
  go_ret
  refine ⟨_, rfl, HK2.out.setCell (.inr (by simp only []; omega)) _, HR2.out.setCell (by simp only []; omega) (by simp only []; omega) _, ?_⟩
  exact AstAt.exp1 (by omega) (by rw [szS]; omega) (by rw [heapS, if_pos rfl, HE2.out]; rfl) rfl rfl

set_option maxRecDepth 100000 in
set_option maxHeartbeats 1000000 in
theorem operand_par_bad {toks : List Tok} {f : Nat} {rb lb cap at_ : Nat} (w : World) (h : RdAt w rb lb cap toks at_) (h3 : (toks.getD at_ default).kind ≠ 3) (h2 : (toks.getD at_ default).kind ≠ 2) (h4 : isB (toks.getD at_ default) ⟨#[97, 115, 107]⟩ = false) (h5 : isB (toks.getD at_ default) ⟨#[40]⟩ = true) (ih : Reads toks f (.expr 1)) {N : Nat} (hG : Gl N w) (hN : N ≤ rb) (hf : need toks.length at_ .operand ≤ f + 1) {ln : Nat} (hx : pr toks f (.expr 1) (at_ + 1) = .error ln) :
    Calls Tryz.prog 136 #[.pointer (some ⟨rb, 0, none⟩)] w (PPost w rb lb cap toks (pr toks (f + 1) .operand at_)) := by
  have hspec : pr toks (f + 1) .operand at_ = .error ln := by simp only [pr]; rw [if_neg h3, if_neg h2, if_neg (by rw [h4]; simp), if_pos h5, hx]
  rw [hspec]; clear hspec
  have hp := fun w' (hb : Ext w w') => peek_any w' (h.keep hb)
  have hA := fun w' (hb : Ext w w') => may_no w' ⟨#[97, 115, 107]⟩ (h.keep hb) h4
  have hP := fun w' (hb : Ext w w') => may_yes w' ⟨#[40]⟩ (h.keep hb) h5
  clear h4 h5
  have hi := fun w' a => ih w' rb lb cap (at_ + 1) N a
  rw [hx] at hi
  have HI := Lib.hid hi
  have HG := Lib.hid hG
  clear hx hi hG ih
  have e3 : (((toks.getD at_ default).kind : Int) == 3) = false := by rw [beq_eq_false_iff_ne]; omega
  have e2 : (((toks.getD at_ default).kind : Int) == 2) = false := by rw [beq_eq_false_iff_ne]; omega
  obtain ⟨c0, c1, f1, s1, b1, b2⟩ := h.cells
  have sl := h.sl
  have HH := Lib.hid h
  clear h h2 h3
  generalize (toks.getD at_ default) = t at *
  obtain ⟨kind, text, line, num⟩ := t
  simp only at e2 e3
  go_enter Tryz.func136, Tryz.ntmps136
  go_wp2_with fail
  refine (hp _ (Ext.refl _)).mono ?_
  rintro e w1 ⟨rfl, hb⟩
  have s2 := hb.size
  go_wp2_with fail
  refine (hA _ ((hb.alloc _).alloc _)).mono ?_
  rintro e w2 ⟨rfl, hb2⟩
  have x2 := hb2.size
  simp only [szA] at x2
  have HB2 := Lib.hid (((hb.alloc _).alloc _).trans hb2)
  have HE2 : Hid (w2.heap[w1.heap.size + 1]? = some (.cells #[.int .i64 0, .int .i64 kind, .string text, .int .i64 line, .int .u32 num, .int .i64 line, .pointer none, .pointer none] 197 (0, 0))) := by
    show _ = _
    rw [hb2.block _ (by simp only [szA]; omega), heapA, if_pos (by rw [szA])]
  clear hb hb2
  go_wp2_with fail
  refine (hP _ HB2.out).mono ?_
  rintro e w3 ⟨rfl, hk, hr⟩
  have x3 := hk.size
  have HE3 : Hid (w3.heap[w1.heap.size + 1]? = some (.cells #[.int .i64 0, .int .i64 kind, .string text, .int .i64 line, .int .u32 num, .int .i64 line, .pointer none, .pointer none] 197 (0, 0))) := by
    show _ = _
    rw [hk.heap _ (by omega) (by omega), HE2.out]
  obtain ⟨q1, q2, q3⟩ := cells_of_heap HE3.out
  have HK3 := Lib.hid ((HB2.out.kp rb).trans hk)
  have HR3 := Lib.hid hr
  clear hk hr HE2
  go_wp2_with fail
  have HR3s := Lib.hid (HR3.out.setCell (p := ⟨w1.heap.size + 1, 0, none⟩) (by simp only []; omega) (by simp only []; omega) (.int .i64 6))
  have HK3s := Lib.hid (HK3.out.setCell (p := ⟨w1.heap.size + 1, 0, none⟩) (.inr (by simp only []; omega)) (.int .i64 6))
  refine (HI.out _ HR3s.out (HG.out.kp hN HK3s.out) hN (by simp only [need] at *; omega)).mono ?_
  rintro e w5 ⟨rfl, hk5⟩
  exact ⟨rfl, rfl, HK3s.out.trans hk5⟩

set_option maxRecDepth 100000 in
set_option maxHeartbeats 1000000 in
theorem operand_par_ok {toks : List Tok} {f : Nat} {rb lb cap at_ : Nat} (w : World) (h : RdAt w rb lb cap toks at_) (h3 : (toks.getD at_ default).kind ≠ 3) (h2 : (toks.getD at_ default).kind ≠ 2) (h4 : isB (toks.getD at_ default) ⟨#[97, 115, 107]⟩ = false) (h5 : isB (toks.getD at_ default) ⟨#[40]⟩ = true) (ih : Reads toks f (.expr 1)) {N : Nat} (hG : Gl N w) (hN : N ≤ rb) (hf : need toks.length at_ .operand ≤ f + 1) {x : Ast} {a : Nat} (hx : pr toks f (.expr 1) (at_ + 1) = .ok (x, a)) (hc : isB (toks.getD a default) ⟨#[41]⟩ = true) :
    Calls Tryz.prog 136 #[.pointer (some ⟨rb, 0, none⟩)] w (PPost w rb lb cap toks (pr toks (f + 1) .operand at_)) := by
  have hspec : pr toks (f + 1) .operand at_ = .ok (.exp 6 (toks.getD at_ default) (toks.getD at_ default).line x .nil, a + 1) := by simp only [pr]; rw [if_neg h3, if_neg h2, if_neg (by rw [h4]; simp), if_pos h5, hx]; dsimp only; rw [hc]; rfl
  rw [hspec]; clear hspec
  have hp := fun w' (hb : Ext w w') => peek_any w' (h.keep hb)
  have hA := fun w' (hb : Ext w w') => may_no w' ⟨#[97, 115, 107]⟩ (h.keep hb) h4
  have hP := fun w' (hb : Ext w w') => may_yes w' ⟨#[40]⟩ (h.keep hb) h5
  clear h4 h5
  have hi := fun w' a => ih w' rb lb cap (at_ + 1) N a
  have hX := pr_isExp toks f _ _ _ _ hx
  rw [hx] at hi
  have HI := Lib.hid hi
  have HG := Lib.hid hG
  clear hx hi hG ih
  have HC := Lib.hid hc
  clear hc
  have e3 : (((toks.getD at_ default).kind : Int) == 3) = false := by rw [beq_eq_false_iff_ne]; omega
  have e2 : (((toks.getD at_ default).kind : Int) == 2) = false := by rw [beq_eq_false_iff_ne]; omega
  obtain ⟨c0, c1, f1, s1, b1, b2⟩ := h.cells
  have sl := h.sl
  have HH := Lib.hid h
  clear h h2 h3
  generalize (toks.getD at_ default) = t at *
  obtain ⟨kind, text, line, num⟩ := t
  simp only at e2 e3
  go_enter Tryz.func136, Tryz.ntmps136
  go_wp2_with fail
  refine (hp _ (Ext.refl _)).mono ?_
  rintro e w1 ⟨rfl, hb⟩
  have s2 := hb.size
  go_wp2_with fail
  refine (hA _ ((hb.alloc _).alloc _)).mono ?_
  rintro e w2 ⟨rfl, hb2⟩
  have x2 := hb2.size
  simp only [szA] at x2
  have HB2 := Lib.hid (((hb.alloc _).alloc _).trans hb2)
  have HE2 : Hid (w2.heap[w1.heap.size + 1]? = some (.cells #[.int .i64 0, .int .i64 kind, .string text, .int .i64 line, .int .u32 num, .int .i64 line, .pointer none, .pointer none] 197 (0, 0))) := by
    show _ = _
    rw [hb2.block _ (by simp only [szA]; omega), heapA, if_pos (by rw [szA])]
  clear hb hb2
  go_wp2_with fail
  refine (hP _ HB2.out).mono ?_
  rintro e w3 ⟨rfl, hk, hr⟩
  have x3 := hk.size
  have HE3 : Hid (w3.heap[w1.heap.size + 1]? = some (.cells #[.int .i64 0, .int .i64 kind, .string text, .int .i64 line, .int .u32 num, .int .i64 line, .pointer none, .pointer none] 197 (0, 0))) := by
    show _ = _
    rw [hk.heap _ (by omega) (by omega), HE2.out]
  obtain ⟨q1, q2, q3⟩ := cells_of_heap HE3.out
  have HK3 := Lib.hid ((HB2.out.kp rb).trans hk)
  have HR3 := Lib.hid hr
  clear hk hr HE2
  go_wp2_with fail
  have HR3s := Lib.hid (HR3.out.setCell (p := ⟨w1.heap.size + 1, 0, none⟩) (by simp only []; omega) (by simp only []; omega) (.int .i64 6))
  have HK3s := Lib.hid (HK3.out.setCell (p := ⟨w1.heap.size + 1, 0, none⟩) (.inr (by simp only []; omega)) (.int .i64 6))
  refine (HI.out _ HR3s.out (HG.out.kp hN HK3s.out) hN (by simp only [need] at *; omega)).mono ?_
  rintro e w5 ⟨v5, rfl, hk5, hr5, ha5⟩
  obtain ⟨b5, rfl, b51, b52⟩ := ha5.ptr_exp hX
  have x5 := hk5.size
  simp only [szS] at x5 b51 ha5
  have HE5 : Hid (w5.heap[w1.heap.size + 1]? = some (.cells #[.int .i64 6, .int .i64 kind, .string text, .int .i64 line, .int .u32 num, .int .i64 line, .pointer none, .pointer none] 197 (0, 0))) := by
    show _ = _
    rw [hk5.heap _ (by rw [szS]; omega) (by omega), heapS, if_pos rfl, HE3.out]; rfl
  have HK5 := Lib.hid (HK3s.out.trans hk5)
  have HR5 := Lib.hid hr5
  have HA5 := Lib.hid ha5
  obtain ⟨t1, t2, t3⟩ := cells_of_heap HE5.out
  clear q1 q2 hk5 hr5 ha5
  go_wp2_with fail
  have HR5s := Lib.hid (HR5.out.setCell (p := ⟨w1.heap.size + 1, 6, none⟩) (by simp only []; omega) (by simp only []; omega) (.pointer (some ⟨b5, 0, none⟩)))
  have HK5s := Lib.hid (HK5.out.setCell (p := ⟨w1.heap.size + 1, 6, none⟩) (.inr (by simp only []; omega)) (.pointer (some ⟨b5, 0, none⟩)))
  refine (want_ok _ _ HR5s.out HC.out).mono ?_
  rintro e w7 ⟨rfl, hk7, hr7⟩
  have s8 := hk7.size
  simp only [szS] at s8
  go_wp2_with fail
  go_ret
  refine ⟨_, rfl, HK5s.out.trans hk7, hr7, ?_⟩
  refine AstAt.exp1 (by omega) (by omega) (by rw [hk7.heap _ (by rw [szS]; omega) (by omega), heapS, if_pos rfl, HE5.out]; rfl) ?_ rfl
  exact HA5.out.keep (fun b h1 h2 => by rw [hk7.heap _ (by rw [szS]; omega) (by omega), heapS, if_neg (by omega)]) (by omega) (by omega)

set_option maxRecDepth 100000 in
set_option maxHeartbeats 1000000 in
theorem operand_par_end {toks : List Tok} {f : Nat} {rb lb cap at_ : Nat} (w : World) (h : RdAt w rb lb cap toks at_) (h3 : (toks.getD at_ default).kind ≠ 3) (h2 : (toks.getD at_ default).kind ≠ 2) (h4 : isB (toks.getD at_ default) ⟨#[97, 115, 107]⟩ = false) (h5 : isB (toks.getD at_ default) ⟨#[40]⟩ = true) (ih : Reads toks f (.expr 1)) {N : Nat} (hG : Gl N w) (hN : N ≤ rb) (hf : need toks.length at_ .operand ≤ f + 1) {x : Ast} {a : Nat} (hx : pr toks f (.expr 1) (at_ + 1) = .ok (x, a)) (hc : isB (toks.getD a default) ⟨#[41]⟩ = false) :
    Calls Tryz.prog 136 #[.pointer (some ⟨rb, 0, none⟩)] w (PPost w rb lb cap toks (pr toks (f + 1) .operand at_)) := by
  have hspec : pr toks (f + 1) .operand at_ = .error (toks.getD a default).line := by simp only [pr]; rw [if_neg h3, if_neg h2, if_neg (by rw [h4]; simp), if_pos h5, hx]; dsimp only; rw [hc]; rfl
  rw [hspec]; clear hspec
  have hp := fun w' (hb : Ext w w') => peek_any w' (h.keep hb)
  have hA := fun w' (hb : Ext w w') => may_no w' ⟨#[97, 115, 107]⟩ (h.keep hb) h4
  have hP := fun w' (hb : Ext w w') => may_yes w' ⟨#[40]⟩ (h.keep hb) h5
  clear h4 h5
  have hi := fun w' a => ih w' rb lb cap (at_ + 1) N a
  have hX := pr_isExp toks f _ _ _ _ hx
  rw [hx] at hi
  have HI := Lib.hid hi
  have HG := Lib.hid hG
  clear hx hi hG ih
  have HC := Lib.hid hc
  clear hc
  have e3 : (((toks.getD at_ default).kind : Int) == 3) = false := by rw [beq_eq_false_iff_ne]; omega
  have e2 : (((toks.getD at_ default).kind : Int) == 2) = false := by rw [beq_eq_false_iff_ne]; omega
  obtain ⟨c0, c1, f1, s1, b1, b2⟩ := h.cells
  have sl := h.sl
  have HH := Lib.hid h
  clear h h2 h3
  generalize (toks.getD at_ default) = t at *
  obtain ⟨kind, text, line, num⟩ := t
  simp only at e2 e3
  go_enter Tryz.func136, Tryz.ntmps136
  go_wp2_with fail
  refine (hp _ (Ext.refl _)).mono ?_
  rintro e w1 ⟨rfl, hb⟩
  have s2 := hb.size
  go_wp2_with fail
  refine (hA _ ((hb.alloc _).alloc _)).mono ?_
  rintro e w2 ⟨rfl, hb2⟩
  have x2 := hb2.size
  simp only [szA] at x2
  have HB2 := Lib.hid (((hb.alloc _).alloc _).trans hb2)
  have HE2 : Hid (w2.heap[w1.heap.size + 1]? = some (.cells #[.int .i64 0, .int .i64 kind, .string text, .int .i64 line, .int .u32 num, .int .i64 line, .pointer none, .pointer none] 197 (0, 0))) := by
    show _ = _
    rw [hb2.block _ (by simp only [szA]; omega), heapA, if_pos (by rw [szA])]
  clear hb hb2
  go_wp2_with fail
  refine (hP _ HB2.out).mono ?_
  rintro e w3 ⟨rfl, hk, hr⟩
  have x3 := hk.size
  have HE3 : Hid (w3.heap[w1.heap.size + 1]? = some (.cells #[.int .i64 0, .int .i64 kind, .string text, .int .i64 line, .int .u32 num, .int .i64 line, .pointer none, .pointer none] 197 (0, 0))) := by
    show _ = _
    rw [hk.heap _ (by omega) (by omega), HE2.out]
  obtain ⟨q1, q2, q3⟩ := cells_of_heap HE3.out
  have HK3 := Lib.hid ((HB2.out.kp rb).trans hk)
  have HR3 := Lib.hid hr
  clear hk hr HE2
  go_wp2_with fail
  have HR3s := Lib.hid (HR3.out.setCell (p := ⟨w1.heap.size + 1, 0, none⟩) (by simp only []; omega) (by simp only []; omega) (.int .i64 6))
  have HK3s := Lib.hid (HK3.out.setCell (p := ⟨w1.heap.size + 1, 0, none⟩) (.inr (by simp only []; omega)) (.int .i64 6))
  refine (HI.out _ HR3s.out (HG.out.kp hN HK3s.out) hN (by simp only [need] at *; omega)).mono ?_
  rintro e w5 ⟨v5, rfl, hk5, hr5, ha5⟩
  obtain ⟨b5, rfl, b51, b52⟩ := ha5.ptr_exp hX
  have x5 := hk5.size
  simp only [szS] at x5 b51 ha5
  have HE5 : Hid (w5.heap[w1.heap.size + 1]? = some (.cells #[.int .i64 6, .int .i64 kind, .string text, .int .i64 line, .int .u32 num, .int .i64 line, .pointer none, .pointer none] 197 (0, 0))) := by
    show _ = _
    rw [hk5.heap _ (by rw [szS]; omega) (by omega), heapS, if_pos rfl, HE3.out]; rfl
  have HK5 := Lib.hid (HK3s.out.trans hk5)
  have HR5 := Lib.hid hr5
  have HA5 := Lib.hid ha5
  obtain ⟨t1, t2, t3⟩ := cells_of_heap HE5.out
  clear q1 q2 hk5 hr5 ha5
  go_wp2_with fail
  have HR5s := Lib.hid (HR5.out.setCell (p := ⟨w1.heap.size + 1, 6, none⟩) (by simp only []; omega) (by simp only []; omega) (.pointer (some ⟨b5, 0, none⟩)))
  have HK5s := Lib.hid (HK5.out.setCell (p := ⟨w1.heap.size + 1, 6, none⟩) (.inr (by simp only []; omega)) (.pointer (some ⟨b5, 0, none⟩)))
  refine (want_bad _ _ HR5s.out HC.out).mono ?_
  rintro e w7 ⟨rfl, hb7⟩
  exact ⟨rfl, rfl, HK5s.out.ext hb7⟩

set_option maxRecDepth 100000 in
set_option maxHeartbeats 1000000 in
theorem operand_neg_bad {toks : List Tok} {f : Nat} {rb lb cap at_ : Nat} (w : World) (h : RdAt w rb lb cap toks at_) (h3 : (toks.getD at_ default).kind ≠ 3) (h2 : (toks.getD at_ default).kind ≠ 2) (h4 : isB (toks.getD at_ default) ⟨#[97, 115, 107]⟩ = false) (h5 : isB (toks.getD at_ default) ⟨#[40]⟩ = false) (h6 : isB (toks.getD at_ default) ⟨#[45]⟩ = true) (ih : Reads toks f .operand) {N : Nat} (hG : Gl N w) (hN : N ≤ rb) (hf : need toks.length at_ .operand ≤ f + 1) {ln : Nat} (hx : pr toks f .operand (at_ + 1) = .error ln) :
    Calls Tryz.prog 136 #[.pointer (some ⟨rb, 0, none⟩)] w (PPost w rb lb cap toks (pr toks (f + 1) .operand at_)) := by
  have hspec : pr toks (f + 1) .operand at_ = .error ln := by simp only [pr]; rw [if_neg h3, if_neg h2, if_neg (by rw [h4]; simp), if_neg (by rw [h5]; simp), if_pos (by rw [h6]; rfl), hx]
  rw [hspec]; clear hspec
  have hp := fun w' (hb : Ext w w') => peek_any w' (h.keep hb)
  have hA := fun w' (hb : Ext w w') => may_no w' ⟨#[97, 115, 107]⟩ (h.keep hb) h4
  have hP := fun w' (hb : Ext w w') => may_no w' ⟨#[40]⟩ (h.keep hb) h5
  have hS0 := fun w' (hb : Ext w w') => is_any w' ⟨#[45]⟩ (h.keep hb)
  rw [h6] at hS0
  have ht := fun w' (hb : Ext w w') => take_ok w' (h.keep hb) (isB_kind h6).1 (isB_kind h6).2
  clear h4 h5 h6
  have hi := fun w' a => ih w' rb lb cap (at_ + 1) N a
  rw [hx] at hi
  have HI := Lib.hid hi
  have HG := Lib.hid hG
  clear hx hi hG ih
  have e3 : (((toks.getD at_ default).kind : Int) == 3) = false := by rw [beq_eq_false_iff_ne]; omega
  have e2 : (((toks.getD at_ default).kind : Int) == 2) = false := by rw [beq_eq_false_iff_ne]; omega
  obtain ⟨c0, c1, f1, s1, b1, b2⟩ := h.cells
  have sl := h.sl
  have HH := Lib.hid h
  clear h h2 h3
  generalize (toks.getD at_ default) = t at *
  obtain ⟨kind, text, line, num⟩ := t
  simp only at e2 e3
  go_enter Tryz.func136, Tryz.ntmps136
  go_wp2_with fail
  refine (hp _ (Ext.refl _)).mono ?_
  rintro e w1 ⟨rfl, hb⟩
  have s2 := hb.size
  go_wp2_with fail
  refine (hA _ ((hb.alloc _).alloc _)).mono ?_
  rintro e w2 ⟨rfl, hb2⟩
  have x2 := hb2.size
  simp only [szA] at x2
  have HB2 := Lib.hid (((hb.alloc _).alloc _).trans hb2)
  have HE2 : Hid (w2.heap[w1.heap.size + 1]? = some (.cells #[.int .i64 0, .int .i64 kind, .string text, .int .i64 line, .int .u32 num, .int .i64 line, .pointer none, .pointer none] 197 (0, 0))) := by
    show _ = _
    rw [hb2.block _ (by simp only [szA]; omega), heapA, if_pos (by rw [szA])]
  clear hb hb2
  go_wp2_with fail
  refine (hP _ HB2.out).mono ?_
  rintro e w3 ⟨rfl, hb3⟩
  have x3 := hb3.size
  have HB3 := Lib.hid (HB2.out.trans hb3)
  have HE3 : Hid (w3.heap[w1.heap.size + 1]? = some (.cells #[.int .i64 0, .int .i64 kind, .string text, .int .i64 line, .int .u32 num, .int .i64 line, .pointer none, .pointer none] 197 (0, 0))) := by
    show _ = _
    rw [hb3.block _ (by omega), HE2.out]
  clear hb3 HE2
  go_wp2_with fail
  refine (hS0 _ HB3.out).mono ?_
  rintro e w4 ⟨rfl, hb4⟩
  have x4 := hb4.size
  have HB4 := Lib.hid (HB3.out.trans hb4)
  have HE4 : Hid (w4.heap[w1.heap.size + 1]? = some (.cells #[.int .i64 0, .int .i64 kind, .string text, .int .i64 line, .int .u32 num, .int .i64 line, .pointer none, .pointer none] 197 (0, 0))) := by
    show _ = _
    rw [hb4.block _ (by omega), HE3.out]
  clear hb4 HE3
  go_wp2_with fail
  refine (ht _ HB4.out).mono ?_
  rintro e w5 ⟨rfl, hk, hr⟩
  have x5 := hk.size
  have HE5 : Hid (w5.heap[w1.heap.size + 1]? = some (.cells #[.int .i64 0, .int .i64 kind, .string text, .int .i64 line, .int .u32 num, .int .i64 line, .pointer none, .pointer none] 197 (0, 0))) := by
    show _ = _
    rw [hk.heap _ (by omega) (by omega), HE4.out]
  obtain ⟨q1, q2, q3⟩ := cells_of_heap HE5.out
  have HK5 := Lib.hid ((HB4.out.kp rb).trans hk)
  have HR5 := Lib.hid hr
  clear hk hr HE4
  go_wp2_with fail
  have HR5s := Lib.hid (HR5.out.setCell (p := ⟨w1.heap.size + 1, 0, none⟩) (by simp only []; omega) (by simp only []; omega) (.int .i64 4))
  have HK5s := Lib.hid (HK5.out.setCell (p := ⟨w1.heap.size + 1, 0, none⟩) (.inr (by simp only []; omega)) (.int .i64 4))
  refine (HI.out _ HR5s.out (HG.out.kp hN HK5s.out) hN (by simp only [need] at *; omega)).mono ?_
  rintro e w9 ⟨rfl, hk9⟩
  exact ⟨rfl, rfl, HK5s.out.trans hk9⟩

set_option maxRecDepth 100000 in
set_option maxHeartbeats 1000000 in
theorem operand_neg_ok {toks : List Tok} {f : Nat} {rb lb cap at_ : Nat} (w : World) (h : RdAt w rb lb cap toks at_) (h3 : (toks.getD at_ default).kind ≠ 3) (h2 : (toks.getD at_ default).kind ≠ 2) (h4 : isB (toks.getD at_ default) ⟨#[97, 115, 107]⟩ = false) (h5 : isB (toks.getD at_ default) ⟨#[40]⟩ = false) (h6 : isB (toks.getD at_ default) ⟨#[45]⟩ = true) (ih : Reads toks f .operand) {N : Nat} (hG : Gl N w) (hN : N ≤ rb) (hf : need toks.length at_ .operand ≤ f + 1) {x : Ast} {a : Nat} (hx : pr toks f .operand (at_ + 1) = .ok (x, a)) :
    Calls Tryz.prog 136 #[.pointer (some ⟨rb, 0, none⟩)] w (PPost w rb lb cap toks (pr toks (f + 1) .operand at_)) := by
  have hspec : pr toks (f + 1) .operand at_ = .ok (.exp 4 (toks.getD at_ default) (toks.getD at_ default).line x .nil, a) := by simp only [pr]; rw [if_neg h3, if_neg h2, if_neg (by rw [h4]; simp), if_neg (by rw [h5]; simp), if_pos (by rw [h6]; rfl), hx]
  rw [hspec]; clear hspec
  have hp := fun w' (hb : Ext w w') => peek_any w' (h.keep hb)
  have hA := fun w' (hb : Ext w w') => may_no w' ⟨#[97, 115, 107]⟩ (h.keep hb) h4
  have hP := fun w' (hb : Ext w w') => may_no w' ⟨#[40]⟩ (h.keep hb) h5
  have hS0 := fun w' (hb : Ext w w') => is_any w' ⟨#[45]⟩ (h.keep hb)
  rw [h6] at hS0
  have ht := fun w' (hb : Ext w w') => take_ok w' (h.keep hb) (isB_kind h6).1 (isB_kind h6).2
  clear h4 h5 h6
  have hi := fun w' a => ih w' rb lb cap (at_ + 1) N a
  have hX := pr_isExp toks f _ _ _ _ hx
  rw [hx] at hi
  have HI := Lib.hid hi
  have HG := Lib.hid hG
  clear hx hi hG ih
  have e3 : (((toks.getD at_ default).kind : Int) == 3) = false := by rw [beq_eq_false_iff_ne]; omega
  have e2 : (((toks.getD at_ default).kind : Int) == 2) = false := by rw [beq_eq_false_iff_ne]; omega
  obtain ⟨c0, c1, f1, s1, b1, b2⟩ := h.cells
  have sl := h.sl
  have HH := Lib.hid h
  clear h h2 h3
  generalize (toks.getD at_ default) = t at *
  obtain ⟨kind, text, line, num⟩ := t
  simp only at e2 e3
  go_enter Tryz.func136, Tryz.ntmps136
  go_wp2_with fail
  refine (hp _ (Ext.refl _)).mono ?_
  rintro e w1 ⟨rfl, hb⟩
  have s2 := hb.size
  go_wp2_with fail
  refine (hA _ ((hb.alloc _).alloc _)).mono ?_
  rintro e w2 ⟨rfl, hb2⟩
  have x2 := hb2.size
  simp only [szA] at x2
  have HB2 := Lib.hid (((hb.alloc _).alloc _).trans hb2)
  have HE2 : Hid (w2.heap[w1.heap.size + 1]? = some (.cells #[.int .i64 0, .int .i64 kind, .string text, .int .i64 line, .int .u32 num, .int .i64 line, .pointer none, .pointer none] 197 (0, 0))) := by
    show _ = _
    rw [hb2.block _ (by simp only [szA]; omega), heapA, if_pos (by rw [szA])]
  clear hb hb2
  go_wp2_with fail
  refine (hP _ HB2.out).mono ?_
  rintro e w3 ⟨rfl, hb3⟩
  have x3 := hb3.size
  have HB3 := Lib.hid (HB2.out.trans hb3)
  have HE3 : Hid (w3.heap[w1.heap.size + 1]? = some (.cells #[.int .i64 0, .int .i64 kind, .string text, .int .i64 line, .int .u32 num, .int .i64 line, .pointer none, .pointer none] 197 (0, 0))) := by
    show _ = _
    rw [hb3.block _ (by omega), HE2.out]
  clear hb3 HE2
  go_wp2_with fail
  refine (hS0 _ HB3.out).mono ?_
  rintro e w4 ⟨rfl, hb4⟩
  have x4 := hb4.size
  have HB4 := Lib.hid (HB3.out.trans hb4)
  have HE4 : Hid (w4.heap[w1.heap.size + 1]? = some (.cells #[.int .i64 0, .int .i64 kind, .string text, .int .i64 line, .int .u32 num, .int .i64 line, .pointer none, .pointer none] 197 (0, 0))) := by
    show _ = _
    rw [hb4.block _ (by omega), HE3.out]
  clear hb4 HE3
  go_wp2_with fail
  refine (ht _ HB4.out).mono ?_
  rintro e w5 ⟨rfl, hk, hr⟩
  have x5 := hk.size
  have HE5 : Hid (w5.heap[w1.heap.size + 1]? = some (.cells #[.int .i64 0, .int .i64 kind, .string text, .int .i64 line, .int .u32 num, .int .i64 line, .pointer none, .pointer none] 197 (0, 0))) := by
    show _ = _
    rw [hk.heap _ (by omega) (by omega), HE4.out]
  obtain ⟨q1, q2, q3⟩ := cells_of_heap HE5.out
  have HK5 := Lib.hid ((HB4.out.kp rb).trans hk)
  have HR5 := Lib.hid hr
  clear hk hr HE4
  go_wp2_with fail
  have HR5s := Lib.hid (HR5.out.setCell (p := ⟨w1.heap.size + 1, 0, none⟩) (by simp only []; omega) (by simp only []; omega) (.int .i64 4))
  have HK5s := Lib.hid (HK5.out.setCell (p := ⟨w1.heap.size + 1, 0, none⟩) (.inr (by simp only []; omega)) (.int .i64 4))
  refine (HI.out _ HR5s.out (HG.out.kp hN HK5s.out) hN (by simp only [need] at *; omega)).mono ?_
  rintro e w9 ⟨v9, rfl, hk9, hr9, ha9⟩
  obtain ⟨b9, rfl, b91, b92⟩ := ha9.ptr_exp hX
  have x9 := hk9.size
  simp only [szS] at x9 b91 ha9
  have HE9 : Hid (w9.heap[w1.heap.size + 1]? = some (.cells #[.int .i64 4, .int .i64 kind, .string text, .int .i64 line, .int .u32 num, .int .i64 line, .pointer none, .pointer none] 197 (0, 0))) := by
    show _ = _
    rw [hk9.heap _ (by rw [szS]; omega) (by omega), heapS, if_pos rfl, HE5.out]; rfl
  have HK9 := Lib.hid (HK5s.out.trans hk9)
  have HR9 := Lib.hid hr9
  have HA9 := Lib.hid ha9
  obtain ⟨t1, t2, t3⟩ := cells_of_heap HE9.out
  clear q1 q2 hk9 hr9 ha9
  go_wp2_with fail
  have HR9s := Lib.hid (HR9.out.setCell (p := ⟨w1.heap.size + 1, 6, none⟩) (by simp only []; omega) (by simp only []; omega) (.pointer (some ⟨b9, 0, none⟩)))
  have HK9s := Lib.hid (HK9.out.setCell (p := ⟨w1.heap.size + 1, 6, none⟩) (.inr (by simp only []; omega)) (.pointer (some ⟨b9, 0, none⟩)))
  go_ret
  refine ⟨_, rfl, HK9s.out, HR9s.out, ?_⟩
  refine AstAt.exp1 (by omega) (by rw [szS]; omega) (by rw [heapS, if_pos rfl, HE9.out]; rfl) ?_ rfl
  exact HA9.out.keep (fun b h1 h2 => by rw [heapS, if_neg (by omega)]) (by omega) (by rw [szS]; omega)

set_option maxRecDepth 100000 in
set_option maxHeartbeats 1000000 in
theorem operand_not_bad {toks : List Tok} {f : Nat} {rb lb cap at_ : Nat} (w : World) (h : RdAt w rb lb cap toks at_) (h3 : (toks.getD at_ default).kind ≠ 3) (h2 : (toks.getD at_ default).kind ≠ 2) (h4 : isB (toks.getD at_ default) ⟨#[97, 115, 107]⟩ = false) (h5 : isB (toks.getD at_ default) ⟨#[40]⟩ = false) (h6 : isB (toks.getD at_ default) ⟨#[45]⟩ = false) (h7 : isB (toks.getD at_ default) ⟨#[33]⟩ = true) (ih : Reads toks f .operand) {N : Nat} (hG : Gl N w) (hN : N ≤ rb) (hf : need toks.length at_ .operand ≤ f + 1) {ln : Nat} (hx : pr toks f .operand (at_ + 1) = .error ln) :
    Calls Tryz.prog 136 #[.pointer (some ⟨rb, 0, none⟩)] w (PPost w rb lb cap toks (pr toks (f + 1) .operand at_)) := by
  have hspec : pr toks (f + 1) .operand at_ = .error ln := by simp only [pr]; rw [if_neg h3, if_neg h2, if_neg (by rw [h4]; simp), if_neg (by rw [h5]; simp), if_pos (by rw [h6, h7]; rfl), hx]
  rw [hspec]; clear hspec
  have hp := fun w' (hb : Ext w w') => peek_any w' (h.keep hb)
  have hA := fun w' (hb : Ext w w') => may_no w' ⟨#[97, 115, 107]⟩ (h.keep hb) h4
  have hP := fun w' (hb : Ext w w') => may_no w' ⟨#[40]⟩ (h.keep hb) h5
  have hS0 := fun w' (hb : Ext w w') => is_any w' ⟨#[45]⟩ (h.keep hb)
  rw [h6] at hS0
  have hS1 := fun w' (hb : Ext w w') => is_any w' ⟨#[33]⟩ (h.keep hb)
  rw [h7] at hS1
  have ht := fun w' (hb : Ext w w') => take_ok w' (h.keep hb) (isB_kind h7).1 (isB_kind h7).2
  clear h4 h5 h6 h7
  have hi := fun w' a => ih w' rb lb cap (at_ + 1) N a
  rw [hx] at hi
  have HI := Lib.hid hi
  have HG := Lib.hid hG
  clear hx hi hG ih
  have e3 : (((toks.getD at_ default).kind : Int) == 3) = false := by rw [beq_eq_false_iff_ne]; omega
  have e2 : (((toks.getD at_ default).kind : Int) == 2) = false := by rw [beq_eq_false_iff_ne]; omega
  obtain ⟨c0, c1, f1, s1, b1, b2⟩ := h.cells
  have sl := h.sl
  have HH := Lib.hid h
  clear h h2 h3
  generalize (toks.getD at_ default) = t at *
  obtain ⟨kind, text, line, num⟩ := t
  simp only at e2 e3
  go_enter Tryz.func136, Tryz.ntmps136
  go_wp2_with fail
  refine (hp _ (Ext.refl _)).mono ?_
  rintro e w1 ⟨rfl, hb⟩
  have s2 := hb.size
  go_wp2_with fail
  refine (hA _ ((hb.alloc _).alloc _)).mono ?_
  rintro e w2 ⟨rfl, hb2⟩
  have x2 := hb2.size
  simp only [szA] at x2
  have HB2 := Lib.hid (((hb.alloc _).alloc _).trans hb2)
  have HE2 : Hid (w2.heap[w1.heap.size + 1]? = some (.cells #[.int .i64 0, .int .i64 kind, .string text, .int .i64 line, .int .u32 num, .int .i64 line, .pointer none, .pointer none] 197 (0, 0))) := by
    show _ = _
    rw [hb2.block _ (by simp only [szA]; omega), heapA, if_pos (by rw [szA])]
  clear hb hb2
  go_wp2_with fail
  refine (hP _ HB2.out).mono ?_
  rintro e w3 ⟨rfl, hb3⟩
  have x3 := hb3.size
  have HB3 := Lib.hid (HB2.out.trans hb3)
  have HE3 : Hid (w3.heap[w1.heap.size + 1]? = some (.cells #[.int .i64 0, .int .i64 kind, .string text, .int .i64 line, .int .u32 num, .int .i64 line, .pointer none, .pointer none] 197 (0, 0))) := by
    show _ = _
    rw [hb3.block _ (by omega), HE2.out]
  clear hb3 HE2
  go_wp2_with fail
  refine (hS0 _ HB3.out).mono ?_
  rintro e w4 ⟨rfl, hb4⟩
  have x4 := hb4.size
  have HB4 := Lib.hid (HB3.out.trans hb4)
  have HE4 : Hid (w4.heap[w1.heap.size + 1]? = some (.cells #[.int .i64 0, .int .i64 kind, .string text, .int .i64 line, .int .u32 num, .int .i64 line, .pointer none, .pointer none] 197 (0, 0))) := by
    show _ = _
    rw [hb4.block _ (by omega), HE3.out]
  clear hb4 HE3
  go_wp2_with fail
  refine (hS1 _ HB4.out).mono ?_
  rintro e w5 ⟨rfl, hb5⟩
  have x5 := hb5.size
  have HB5 := Lib.hid (HB4.out.trans hb5)
  have HE5 : Hid (w5.heap[w1.heap.size + 1]? = some (.cells #[.int .i64 0, .int .i64 kind, .string text, .int .i64 line, .int .u32 num, .int .i64 line, .pointer none, .pointer none] 197 (0, 0))) := by
    show _ = _
    rw [hb5.block _ (by omega), HE4.out]
  clear hb5 HE4
  go_wp2_with fail
  refine (ht _ HB5.out).mono ?_
  rintro e w6 ⟨rfl, hk, hr⟩
  have x6 := hk.size
  have HE6 : Hid (w6.heap[w1.heap.size + 1]? = some (.cells #[.int .i64 0, .int .i64 kind, .string text, .int .i64 line, .int .u32 num, .int .i64 line, .pointer none, .pointer none] 197 (0, 0))) := by
    show _ = _
    rw [hk.heap _ (by omega) (by omega), HE5.out]
  obtain ⟨q1, q2, q3⟩ := cells_of_heap HE6.out
  have HK6 := Lib.hid ((HB5.out.kp rb).trans hk)
  have HR6 := Lib.hid hr
  clear hk hr HE5
  go_wp2_with fail
  have HR6s := Lib.hid (HR6.out.setCell (p := ⟨w1.heap.size + 1, 0, none⟩) (by simp only []; omega) (by simp only []; omega) (.int .i64 4))
  have HK6s := Lib.hid (HK6.out.setCell (p := ⟨w1.heap.size + 1, 0, none⟩) (.inr (by simp only []; omega)) (.int .i64 4))
  refine (HI.out _ HR6s.out (HG.out.kp hN HK6s.out) hN (by simp only [need] at *; omega)).mono ?_
  rintro e w9 ⟨rfl, hk9⟩
  exact ⟨rfl, rfl, HK6s.out.trans hk9⟩

set_option maxRecDepth 100000 in
set_option maxHeartbeats 1000000 in
theorem operand_not_ok {toks : List Tok} {f : Nat} {rb lb cap at_ : Nat} (w : World) (h : RdAt w rb lb cap toks at_) (h3 : (toks.getD at_ default).kind ≠ 3) (h2 : (toks.getD at_ default).kind ≠ 2) (h4 : isB (toks.getD at_ default) ⟨#[97, 115, 107]⟩ = false) (h5 : isB (toks.getD at_ default) ⟨#[40]⟩ = false) (h6 : isB (toks.getD at_ default) ⟨#[45]⟩ = false) (h7 : isB (toks.getD at_ default) ⟨#[33]⟩ = true) (ih : Reads toks f .operand) {N : Nat} (hG : Gl N w) (hN : N ≤ rb) (hf : need toks.length at_ .operand ≤ f + 1) {x : Ast} {a : Nat} (hx : pr toks f .operand (at_ + 1) = .ok (x, a)) :
    Calls Tryz.prog 136 #[.pointer (some ⟨rb, 0, none⟩)] w (PPost w rb lb cap toks (pr toks (f + 1) .operand at_)) := by
  have hspec : pr toks (f + 1) .operand at_ = .ok (.exp 4 (toks.getD at_ default) (toks.getD at_ default).line x .nil, a) := by simp only [pr]; rw [if_neg h3, if_neg h2, if_neg (by rw [h4]; simp), if_neg (by rw [h5]; simp), if_pos (by rw [h6, h7]; rfl), hx]
  rw [hspec]; clear hspec
  have hp := fun w' (hb : Ext w w') => peek_any w' (h.keep hb)
  have hA := fun w' (hb : Ext w w') => may_no w' ⟨#[97, 115, 107]⟩ (h.keep hb) h4
  have hP := fun w' (hb : Ext w w') => may_no w' ⟨#[40]⟩ (h.keep hb) h5
  have hS0 := fun w' (hb : Ext w w') => is_any w' ⟨#[45]⟩ (h.keep hb)
  rw [h6] at hS0
  have hS1 := fun w' (hb : Ext w w') => is_any w' ⟨#[33]⟩ (h.keep hb)
  rw [h7] at hS1
  have ht := fun w' (hb : Ext w w') => take_ok w' (h.keep hb) (isB_kind h7).1 (isB_kind h7).2
  clear h4 h5 h6 h7
  have hi := fun w' a => ih w' rb lb cap (at_ + 1) N a
  have hX := pr_isExp toks f _ _ _ _ hx
  rw [hx] at hi
  have HI := Lib.hid hi
  have HG := Lib.hid hG
  clear hx hi hG ih
  have e3 : (((toks.getD at_ default).kind : Int) == 3) = false := by rw [beq_eq_false_iff_ne]; omega
  have e2 : (((toks.getD at_ default).kind : Int) == 2) = false := by rw [beq_eq_false_iff_ne]; omega
  obtain ⟨c0, c1, f1, s1, b1, b2⟩ := h.cells
  have sl := h.sl
  have HH := Lib.hid h
  clear h h2 h3
  generalize (toks.getD at_ default) = t at *
  obtain ⟨kind, text, line, num⟩ := t
  simp only at e2 e3
  go_enter Tryz.func136, Tryz.ntmps136
  go_wp2_with fail
  refine (hp _ (Ext.refl _)).mono ?_
  rintro e w1 ⟨rfl, hb⟩
  have s2 := hb.size
  go_wp2_with fail
  refine (hA _ ((hb.alloc _).alloc _)).mono ?_
  rintro e w2 ⟨rfl, hb2⟩
  have x2 := hb2.size
  simp only [szA] at x2
  have HB2 := Lib.hid (((hb.alloc _).alloc _).trans hb2)
  have HE2 : Hid (w2.heap[w1.heap.size + 1]? = some (.cells #[.int .i64 0, .int .i64 kind, .string text, .int .i64 line, .int .u32 num, .int .i64 line, .pointer none, .pointer none] 197 (0, 0))) := by
    show _ = _
    rw [hb2.block _ (by simp only [szA]; omega), heapA, if_pos (by rw [szA])]
  clear hb hb2
  go_wp2_with fail
  refine (hP _ HB2.out).mono ?_
  rintro e w3 ⟨rfl, hb3⟩
  have x3 := hb3.size
  have HB3 := Lib.hid (HB2.out.trans hb3)
  have HE3 : Hid (w3.heap[w1.heap.size + 1]? = some (.cells #[.int .i64 0, .int .i64 kind, .string text, .int .i64 line, .int .u32 num, .int .i64 line, .pointer none, .pointer none] 197 (0, 0))) := by
    show _ = _
    rw [hb3.block _ (by omega), HE2.out]
  clear hb3 HE2
  go_wp2_with fail
  refine (hS0 _ HB3.out).mono ?_
  rintro e w4 ⟨rfl, hb4⟩
  have x4 := hb4.size
  have HB4 := Lib.hid (HB3.out.trans hb4)
  have HE4 : Hid (w4.heap[w1.heap.size + 1]? = some (.cells #[.int .i64 0, .int .i64 kind, .string text, .int .i64 line, .int .u32 num, .int .i64 line, .pointer none, .pointer none] 197 (0, 0))) := by
    show _ = _
    rw [hb4.block _ (by omega), HE3.out]
  clear hb4 HE3
  go_wp2_with fail
  refine (hS1 _ HB4.out).mono ?_
  rintro e w5 ⟨rfl, hb5⟩
  have x5 := hb5.size
  have HB5 := Lib.hid (HB4.out.trans hb5)
  have HE5 : Hid (w5.heap[w1.heap.size + 1]? = some (.cells #[.int .i64 0, .int .i64 kind, .string text, .int .i64 line, .int .u32 num, .int .i64 line, .pointer none, .pointer none] 197 (0, 0))) := by
    show _ = _
    rw [hb5.block _ (by omega), HE4.out]
  clear hb5 HE4
  go_wp2_with fail
  refine (ht _ HB5.out).mono ?_
  rintro e w6 ⟨rfl, hk, hr⟩
  have x6 := hk.size
  have HE6 : Hid (w6.heap[w1.heap.size + 1]? = some (.cells #[.int .i64 0, .int .i64 kind, .string text, .int .i64 line, .int .u32 num, .int .i64 line, .pointer none, .pointer none] 197 (0, 0))) := by
    show _ = _
    rw [hk.heap _ (by omega) (by omega), HE5.out]
  obtain ⟨q1, q2, q3⟩ := cells_of_heap HE6.out
  have HK6 := Lib.hid ((HB5.out.kp rb).trans hk)
  have HR6 := Lib.hid hr
  clear hk hr HE5
  go_wp2_with fail
  have HR6s := Lib.hid (HR6.out.setCell (p := ⟨w1.heap.size + 1, 0, none⟩) (by simp only []; omega) (by simp only []; omega) (.int .i64 4))
  have HK6s := Lib.hid (HK6.out.setCell (p := ⟨w1.heap.size + 1, 0, none⟩) (.inr (by simp only []; omega)) (.int .i64 4))
  refine (HI.out _ HR6s.out (HG.out.kp hN HK6s.out) hN (by simp only [need] at *; omega)).mono ?_
  rintro e w9 ⟨v9, rfl, hk9, hr9, ha9⟩
  obtain ⟨b9, rfl, b91, b92⟩ := ha9.ptr_exp hX
  have x9 := hk9.size
  simp only [szS] at x9 b91 ha9
  have HE9 : Hid (w9.heap[w1.heap.size + 1]? = some (.cells #[.int .i64 4, .int .i64 kind, .string text, .int .i64 line, .int .u32 num, .int .i64 line, .pointer none, .pointer none] 197 (0, 0))) := by
    show _ = _
    rw [hk9.heap _ (by rw [szS]; omega) (by omega), heapS, if_pos rfl, HE6.out]; rfl
  have HK9 := Lib.hid (HK6s.out.trans hk9)
  have HR9 := Lib.hid hr9
  have HA9 := Lib.hid ha9
  obtain ⟨t1, t2, t3⟩ := cells_of_heap HE9.out
  clear q1 q2 hk9 hr9 ha9
  go_wp2_with fail
  have HR9s := Lib.hid (HR9.out.setCell (p := ⟨w1.heap.size + 1, 6, none⟩) (by simp only []; omega) (by simp only []; omega) (.pointer (some ⟨b9, 0, none⟩)))
  have HK9s := Lib.hid (HK9.out.setCell (p := ⟨w1.heap.size + 1, 6, none⟩) (.inr (by simp only []; omega)) (.pointer (some ⟨b9, 0, none⟩)))
  go_ret
  refine ⟨_, rfl, HK9s.out, HR9s.out, ?_⟩
  refine AstAt.exp1 (by omega) (by rw [szS]; omega) (by rw [heapS, if_pos rfl, HE9.out]; rfl) ?_ rfl
  exact HA9.out.keep (fun b h1 h2 => by rw [heapS, if_neg (by omega)]) (by omega) (by rw [szS]; omega)

set_option maxRecDepth 100000 in
set_option maxHeartbeats 1000000 in
theorem operand_til_bad {toks : List Tok} {f : Nat} {rb lb cap at_ : Nat} (w : World) (h : RdAt w rb lb cap toks at_) (h3 : (toks.getD at_ default).kind ≠ 3) (h2 : (toks.getD at_ default).kind ≠ 2) (h4 : isB (toks.getD at_ default) ⟨#[97, 115, 107]⟩ = false) (h5 : isB (toks.getD at_ default) ⟨#[40]⟩ = false) (h6 : isB (toks.getD at_ default) ⟨#[45]⟩ = false) (h7 : isB (toks.getD at_ default) ⟨#[33]⟩ = false) (h8 : isB (toks.getD at_ default) ⟨#[126]⟩ = true) (ih : Reads toks f .operand) {N : Nat} (hG : Gl N w) (hN : N ≤ rb) (hf : need toks.length at_ .operand ≤ f + 1) {ln : Nat} (hx : pr toks f .operand (at_ + 1) = .error ln) :
    Calls Tryz.prog 136 #[.pointer (some ⟨rb, 0, none⟩)] w (PPost w rb lb cap toks (pr toks (f + 1) .operand at_)) := by
  have hspec : pr toks (f + 1) .operand at_ = .error ln := by simp only [pr]; rw [if_neg h3, if_neg h2, if_neg (by rw [h4]; simp), if_neg (by rw [h5]; simp), if_pos (by rw [h6, h7, h8]; rfl), hx]
  rw [hspec]; clear hspec
  have hp := fun w' (hb : Ext w w') => peek_any w' (h.keep hb)
  have hA := fun w' (hb : Ext w w') => may_no w' ⟨#[97, 115, 107]⟩ (h.keep hb) h4
  have hP := fun w' (hb : Ext w w') => may_no w' ⟨#[40]⟩ (h.keep hb) h5
  have hS0 := fun w' (hb : Ext w w') => is_any w' ⟨#[45]⟩ (h.keep hb)
  rw [h6] at hS0
  have hS1 := fun w' (hb : Ext w w') => is_any w' ⟨#[33]⟩ (h.keep hb)
  rw [h7] at hS1
  have hS2 := fun w' (hb : Ext w w') => is_any w' ⟨#[126]⟩ (h.keep hb)
  rw [h8] at hS2
  have ht := fun w' (hb : Ext w w') => take_ok w' (h.keep hb) (isB_kind h8).1 (isB_kind h8).2
  clear h4 h5 h6 h7 h8
  have hi := fun w' a => ih w' rb lb cap (at_ + 1) N a
  rw [hx] at hi
  have HI := Lib.hid hi
  have HG := Lib.hid hG
  clear hx hi hG ih
  have e3 : (((toks.getD at_ default).kind : Int) == 3) = false := by rw [beq_eq_false_iff_ne]; omega
  have e2 : (((toks.getD at_ default).kind : Int) == 2) = false := by rw [beq_eq_false_iff_ne]; omega
  obtain ⟨c0, c1, f1, s1, b1, b2⟩ := h.cells
  have sl := h.sl
  have HH := Lib.hid h
  clear h h2 h3
  generalize (toks.getD at_ default) = t at *
  obtain ⟨kind, text, line, num⟩ := t
  simp only at e2 e3
  go_enter Tryz.func136, Tryz.ntmps136
  go_wp2_with fail
  refine (hp _ (Ext.refl _)).mono ?_
  rintro e w1 ⟨rfl, hb⟩
  have s2 := hb.size
  go_wp2_with fail
  refine (hA _ ((hb.alloc _).alloc _)).mono ?_
  rintro e w2 ⟨rfl, hb2⟩
  have x2 := hb2.size
  simp only [szA] at x2
  have HB2 := Lib.hid (((hb.alloc _).alloc _).trans hb2)
  have HE2 : Hid (w2.heap[w1.heap.size + 1]? = some (.cells #[.int .i64 0, .int .i64 kind, .string text, .int .i64 line, .int .u32 num, .int .i64 line, .pointer none, .pointer none] 197 (0, 0))) := by
    show _ = _
    rw [hb2.block _ (by simp only [szA]; omega), heapA, if_pos (by rw [szA])]
  clear hb hb2
  go_wp2_with fail
  refine (hP _ HB2.out).mono ?_
  rintro e w3 ⟨rfl, hb3⟩
  have x3 := hb3.size
  have HB3 := Lib.hid (HB2.out.trans hb3)
  have HE3 : Hid (w3.heap[w1.heap.size + 1]? = some (.cells #[.int .i64 0, .int .i64 kind, .string text, .int .i64 line, .int .u32 num, .int .i64 line, .pointer none, .pointer none] 197 (0, 0))) := by
    show _ = _
    rw [hb3.block _ (by omega), HE2.out]
  clear hb3 HE2
  go_wp2_with fail
  refine (hS0 _ HB3.out).mono ?_
  rintro e w4 ⟨rfl, hb4⟩
  have x4 := hb4.size
  have HB4 := Lib.hid (HB3.out.trans hb4)
  have HE4 : Hid (w4.heap[w1.heap.size + 1]? = some (.cells #[.int .i64 0, .int .i64 kind, .string text, .int .i64 line, .int .u32 num, .int .i64 line, .pointer none, .pointer none] 197 (0, 0))) := by
    show _ = _
    rw [hb4.block _ (by omega), HE3.out]
  clear hb4 HE3
  go_wp2_with fail
  refine (hS1 _ HB4.out).mono ?_
  rintro e w5 ⟨rfl, hb5⟩
  have x5 := hb5.size
  have HB5 := Lib.hid (HB4.out.trans hb5)
  have HE5 : Hid (w5.heap[w1.heap.size + 1]? = some (.cells #[.int .i64 0, .int .i64 kind, .string text, .int .i64 line, .int .u32 num, .int .i64 line, .pointer none, .pointer none] 197 (0, 0))) := by
    show _ = _
    rw [hb5.block _ (by omega), HE4.out]
  clear hb5 HE4
  go_wp2_with fail
  refine (hS2 _ HB5.out).mono ?_
  rintro e w6 ⟨rfl, hb6⟩
  have x6 := hb6.size
  have HB6 := Lib.hid (HB5.out.trans hb6)
  have HE6 : Hid (w6.heap[w1.heap.size + 1]? = some (.cells #[.int .i64 0, .int .i64 kind, .string text, .int .i64 line, .int .u32 num, .int .i64 line, .pointer none, .pointer none] 197 (0, 0))) := by
    show _ = _
    rw [hb6.block _ (by omega), HE5.out]
  clear hb6 HE5
  go_wp2_with fail
  refine (ht _ HB6.out).mono ?_
  rintro e w7 ⟨rfl, hk, hr⟩
  have x7 := hk.size
  have HE7 : Hid (w7.heap[w1.heap.size + 1]? = some (.cells #[.int .i64 0, .int .i64 kind, .string text, .int .i64 line, .int .u32 num, .int .i64 line, .pointer none, .pointer none] 197 (0, 0))) := by
    show _ = _
    rw [hk.heap _ (by omega) (by omega), HE6.out]
  obtain ⟨q1, q2, q3⟩ := cells_of_heap HE7.out
  have HK7 := Lib.hid ((HB6.out.kp rb).trans hk)
  have HR7 := Lib.hid hr
  clear hk hr HE6
  go_wp2_with fail
  have HR7s := Lib.hid (HR7.out.setCell (p := ⟨w1.heap.size + 1, 0, none⟩) (by simp only []; omega) (by simp only []; omega) (.int .i64 4))
  have HK7s := Lib.hid (HK7.out.setCell (p := ⟨w1.heap.size + 1, 0, none⟩) (.inr (by simp only []; omega)) (.int .i64 4))
  refine (HI.out _ HR7s.out (HG.out.kp hN HK7s.out) hN (by simp only [need] at *; omega)).mono ?_
  rintro e w9 ⟨rfl, hk9⟩
  exact ⟨rfl, rfl, HK7s.out.trans hk9⟩

set_option maxRecDepth 100000 in
set_option maxHeartbeats 1000000 in
theorem operand_til_ok {toks : List Tok} {f : Nat} {rb lb cap at_ : Nat} (w : World) (h : RdAt w rb lb cap toks at_) (h3 : (toks.getD at_ default).kind ≠ 3) (h2 : (toks.getD at_ default).kind ≠ 2) (h4 : isB (toks.getD at_ default) ⟨#[97, 115, 107]⟩ = false) (h5 : isB (toks.getD at_ default) ⟨#[40]⟩ = false) (h6 : isB (toks.getD at_ default) ⟨#[45]⟩ = false) (h7 : isB (toks.getD at_ default) ⟨#[33]⟩ = false) (h8 : isB (toks.getD at_ default) ⟨#[126]⟩ = true) (ih : Reads toks f .operand) {N : Nat} (hG : Gl N w) (hN : N ≤ rb) (hf : need toks.length at_ .operand ≤ f + 1) {x : Ast} {a : Nat} (hx : pr toks f .operand (at_ + 1) = .ok (x, a)) :
    Calls Tryz.prog 136 #[.pointer (some ⟨rb, 0, none⟩)] w (PPost w rb lb cap toks (pr toks (f + 1) .operand at_)) := by
  have hspec : pr toks (f + 1) .operand at_ = .ok (.exp 4 (toks.getD at_ default) (toks.getD at_ default).line x .nil, a) := by simp only [pr]; rw [if_neg h3, if_neg h2, if_neg (by rw [h4]; simp), if_neg (by rw [h5]; simp), if_pos (by rw [h6, h7, h8]; rfl), hx]
  rw [hspec]; clear hspec
  have hp := fun w' (hb : Ext w w') => peek_any w' (h.keep hb)
  have hA := fun w' (hb : Ext w w') => may_no w' ⟨#[97, 115, 107]⟩ (h.keep hb) h4
  have hP := fun w' (hb : Ext w w') => may_no w' ⟨#[40]⟩ (h.keep hb) h5
  have hS0 := fun w' (hb : Ext w w') => is_any w' ⟨#[45]⟩ (h.keep hb)
  rw [h6] at hS0
  have hS1 := fun w' (hb : Ext w w') => is_any w' ⟨#[33]⟩ (h.keep hb)
  rw [h7] at hS1
  have hS2 := fun w' (hb : Ext w w') => is_any w' ⟨#[126]⟩ (h.keep hb)
  rw [h8] at hS2
  have ht := fun w' (hb : Ext w w') => take_ok w' (h.keep hb) (isB_kind h8).1 (isB_kind h8).2
  clear h4 h5 h6 h7 h8
  have hi := fun w' a => ih w' rb lb cap (at_ + 1) N a
  have hX := pr_isExp toks f _ _ _ _ hx
  rw [hx] at hi
  have HI := Lib.hid hi
  have HG := Lib.hid hG
  clear hx hi hG ih
  have e3 : (((toks.getD at_ default).kind : Int) == 3) = false := by rw [beq_eq_false_iff_ne]; omega
  have e2 : (((toks.getD at_ default).kind : Int) == 2) = false := by rw [beq_eq_false_iff_ne]; omega
  obtain ⟨c0, c1, f1, s1, b1, b2⟩ := h.cells
  have sl := h.sl
  have HH := Lib.hid h
  clear h h2 h3
  generalize (toks.getD at_ default) = t at *
  obtain ⟨kind, text, line, num⟩ := t
  simp only at e2 e3
  go_enter Tryz.func136, Tryz.ntmps136
  go_wp2_with fail
  refine (hp _ (Ext.refl _)).mono ?_
  rintro e w1 ⟨rfl, hb⟩
  have s2 := hb.size
  go_wp2_with fail
  refine (hA _ ((hb.alloc _).alloc _)).mono ?_
  rintro e w2 ⟨rfl, hb2⟩
  have x2 := hb2.size
  simp only [szA] at x2
  have HB2 := Lib.hid (((hb.alloc _).alloc _).trans hb2)
  have HE2 : Hid (w2.heap[w1.heap.size + 1]? = some (.cells #[.int .i64 0, .int .i64 kind, .string text, .int .i64 line, .int .u32 num, .int .i64 line, .pointer none, .pointer none] 197 (0, 0))) := by
    show _ = _
    rw [hb2.block _ (by simp only [szA]; omega), heapA, if_pos (by rw [szA])]
  clear hb hb2
  go_wp2_with fail
  refine (hP _ HB2.out).mono ?_
  rintro e w3 ⟨rfl, hb3⟩
  have x3 := hb3.size
  have HB3 := Lib.hid (HB2.out.trans hb3)
  have HE3 : Hid (w3.heap[w1.heap.size + 1]? = some (.cells #[.int .i64 0, .int .i64 kind, .string text, .int .i64 line, .int .u32 num, .int .i64 line, .pointer none, .pointer none] 197 (0, 0))) := by
    show _ = _
    rw [hb3.block _ (by omega), HE2.out]
  clear hb3 HE2
  go_wp2_with fail
  refine (hS0 _ HB3.out).mono ?_
  rintro e w4 ⟨rfl, hb4⟩
  have x4 := hb4.size
  have HB4 := Lib.hid (HB3.out.trans hb4)
  have HE4 : Hid (w4.heap[w1.heap.size + 1]? = some (.cells #[.int .i64 0, .int .i64 kind, .string text, .int .i64 line, .int .u32 num, .int .i64 line, .pointer none, .pointer none] 197 (0, 0))) := by
    show _ = _
    rw [hb4.block _ (by omega), HE3.out]
  clear hb4 HE3
  go_wp2_with fail
  refine (hS1 _ HB4.out).mono ?_
  rintro e w5 ⟨rfl, hb5⟩
  have x5 := hb5.size
  have HB5 := Lib.hid (HB4.out.trans hb5)
  have HE5 : Hid (w5.heap[w1.heap.size + 1]? = some (.cells #[.int .i64 0, .int .i64 kind, .string text, .int .i64 line, .int .u32 num, .int .i64 line, .pointer none, .pointer none] 197 (0, 0))) := by
    show _ = _
    rw [hb5.block _ (by omega), HE4.out]
  clear hb5 HE4
  go_wp2_with fail
  refine (hS2 _ HB5.out).mono ?_
  rintro e w6 ⟨rfl, hb6⟩
  have x6 := hb6.size
  have HB6 := Lib.hid (HB5.out.trans hb6)
  have HE6 : Hid (w6.heap[w1.heap.size + 1]? = some (.cells #[.int .i64 0, .int .i64 kind, .string text, .int .i64 line, .int .u32 num, .int .i64 line, .pointer none, .pointer none] 197 (0, 0))) := by
    show _ = _
    rw [hb6.block _ (by omega), HE5.out]
  clear hb6 HE5
  go_wp2_with fail
  refine (ht _ HB6.out).mono ?_
  rintro e w7 ⟨rfl, hk, hr⟩
  have x7 := hk.size
  have HE7 : Hid (w7.heap[w1.heap.size + 1]? = some (.cells #[.int .i64 0, .int .i64 kind, .string text, .int .i64 line, .int .u32 num, .int .i64 line, .pointer none, .pointer none] 197 (0, 0))) := by
    show _ = _
    rw [hk.heap _ (by omega) (by omega), HE6.out]
  obtain ⟨q1, q2, q3⟩ := cells_of_heap HE7.out
  have HK7 := Lib.hid ((HB6.out.kp rb).trans hk)
  have HR7 := Lib.hid hr
  clear hk hr HE6
  go_wp2_with fail
  have HR7s := Lib.hid (HR7.out.setCell (p := ⟨w1.heap.size + 1, 0, none⟩) (by simp only []; omega) (by simp only []; omega) (.int .i64 4))
  have HK7s := Lib.hid (HK7.out.setCell (p := ⟨w1.heap.size + 1, 0, none⟩) (.inr (by simp only []; omega)) (.int .i64 4))
  refine (HI.out _ HR7s.out (HG.out.kp hN HK7s.out) hN (by simp only [need] at *; omega)).mono ?_
  rintro e w9 ⟨v9, rfl, hk9, hr9, ha9⟩
  obtain ⟨b9, rfl, b91, b92⟩ := ha9.ptr_exp hX
  have x9 := hk9.size
  simp only [szS] at x9 b91 ha9
  have HE9 : Hid (w9.heap[w1.heap.size + 1]? = some (.cells #[.int .i64 4, .int .i64 kind, .string text, .int .i64 line, .int .u32 num, .int .i64 line, .pointer none, .pointer none] 197 (0, 0))) := by
    show _ = _
    rw [hk9.heap _ (by rw [szS]; omega) (by omega), heapS, if_pos rfl, HE7.out]; rfl
  have HK9 := Lib.hid (HK7s.out.trans hk9)
  have HR9 := Lib.hid hr9
  have HA9 := Lib.hid ha9
  obtain ⟨t1, t2, t3⟩ := cells_of_heap HE9.out
  clear q1 q2 hk9 hr9 ha9
  go_wp2_with fail
  have HR9s := Lib.hid (HR9.out.setCell (p := ⟨w1.heap.size + 1, 6, none⟩) (by simp only []; omega) (by simp only []; omega) (.pointer (some ⟨b9, 0, none⟩)))
  have HK9s := Lib.hid (HK9.out.setCell (p := ⟨w1.heap.size + 1, 6, none⟩) (.inr (by simp only []; omega)) (.pointer (some ⟨b9, 0, none⟩)))
  go_ret
  refine ⟨_, rfl, HK9s.out, HR9s.out, ?_⟩
  refine AstAt.exp1 (by omega) (by rw [szS]; omega) (by rw [heapS, if_pos rfl, HE9.out]; rfl) ?_ rfl
  exact HA9.out.keep (fun b h1 h2 => by rw [heapS, if_neg (by omega)]) (by omega) (by rw [szS]; omega)

set_option maxRecDepth 100000 in
set_option maxHeartbeats 1000000 in
theorem operand_give {toks : List Tok} {f : Nat} {rb lb cap at_ : Nat} (w : World) (h : RdAt w rb lb cap toks at_) (h3 : (toks.getD at_ default).kind ≠ 3) (h2 : (toks.getD at_ default).kind ≠ 2) (h4 : isB (toks.getD at_ default) ⟨#[97, 115, 107]⟩ = false) (h5 : isB (toks.getD at_ default) ⟨#[40]⟩ = false) (h6 : isB (toks.getD at_ default) ⟨#[45]⟩ = false) (h7 : isB (toks.getD at_ default) ⟨#[33]⟩ = false) (h8 : isB (toks.getD at_ default) ⟨#[126]⟩ = false) :
    Calls Tryz.prog 136 #[.pointer (some ⟨rb, 0, none⟩)] w (PPost w rb lb cap toks (pr toks (f + 1) .operand at_)) := by
  have hspec : pr toks (f + 1) .operand at_ = .error (toks.getD at_ default).line := by simp only [pr]; rw [if_neg h3, if_neg h2, if_neg (by rw [h4]; simp), if_neg (by rw [h5]; simp), if_neg (by rw [h6, h7, h8]; simp)]
  rw [hspec]; clear hspec
  have hp := fun w' (hb : Ext w w') => peek_any w' (h.keep hb)
  have hA := fun w' (hb : Ext w w') => may_no w' ⟨#[97, 115, 107]⟩ (h.keep hb) h4
  have hP := fun w' (hb : Ext w w') => may_no w' ⟨#[40]⟩ (h.keep hb) h5
  have hS0 := fun w' (hb : Ext w w') => is_any w' ⟨#[45]⟩ (h.keep hb)
  rw [h6] at hS0
  have hS1 := fun w' (hb : Ext w w') => is_any w' ⟨#[33]⟩ (h.keep hb)
  rw [h7] at hS1
  have hS2 := fun w' (hb : Ext w w') => is_any w' ⟨#[126]⟩ (h.keep hb)
  rw [h8] at hS2
  have hg := fun w' (hb : Ext w w') => give_any w' (h.keep hb)
  clear h4 h5 h6 h7 h8
  have e3 : (((toks.getD at_ default).kind : Int) == 3) = false := by rw [beq_eq_false_iff_ne]; omega
  have e2 : (((toks.getD at_ default).kind : Int) == 2) = false := by rw [beq_eq_false_iff_ne]; omega
  obtain ⟨c0, c1, f1, s1, b1, b2⟩ := h.cells
  have sl := h.sl
  have HH := Lib.hid h
  clear h h2 h3
  generalize (toks.getD at_ default) = t at *
  obtain ⟨kind, text, line, num⟩ := t
  simp only at e2 e3
  go_enter Tryz.func136, Tryz.ntmps136
  go_wp2_with fail
  refine (hp _ (Ext.refl _)).mono ?_
  rintro e w1 ⟨rfl, hb⟩
  have s2 := hb.size
  go_wp2_with fail
  refine (hA _ ((hb.alloc _).alloc _)).mono ?_
  rintro e w2 ⟨rfl, hb2⟩
  have x2 := hb2.size
  simp only [szA] at x2
  have HB2 := Lib.hid (((hb.alloc _).alloc _).trans hb2)
  have HE2 : Hid (w2.heap[w1.heap.size + 1]? = some (.cells #[.int .i64 0, .int .i64 kind, .string text, .int .i64 line, .int .u32 num, .int .i64 line, .pointer none, .pointer none] 197 (0, 0))) := by
    show _ = _
    rw [hb2.block _ (by simp only [szA]; omega), heapA, if_pos (by rw [szA])]
  clear hb hb2
  go_wp2_with fail
  refine (hP _ HB2.out).mono ?_
  rintro e w3 ⟨rfl, hb3⟩
  have x3 := hb3.size
  have HB3 := Lib.hid (HB2.out.trans hb3)
  have HE3 : Hid (w3.heap[w1.heap.size + 1]? = some (.cells #[.int .i64 0, .int .i64 kind, .string text, .int .i64 line, .int .u32 num, .int .i64 line, .pointer none, .pointer none] 197 (0, 0))) := by
    show _ = _
    rw [hb3.block _ (by omega), HE2.out]
  clear hb3 HE2
  go_wp2_with fail
  refine (hS0 _ HB3.out).mono ?_
  rintro e w4 ⟨rfl, hb4⟩
  have x4 := hb4.size
  have HB4 := Lib.hid (HB3.out.trans hb4)
  have HE4 : Hid (w4.heap[w1.heap.size + 1]? = some (.cells #[.int .i64 0, .int .i64 kind, .string text, .int .i64 line, .int .u32 num, .int .i64 line, .pointer none, .pointer none] 197 (0, 0))) := by
    show _ = _
    rw [hb4.block _ (by omega), HE3.out]
  clear hb4 HE3
  go_wp2_with fail
  refine (hS1 _ HB4.out).mono ?_
  rintro e w5 ⟨rfl, hb5⟩
  have x5 := hb5.size
  have HB5 := Lib.hid (HB4.out.trans hb5)
  have HE5 : Hid (w5.heap[w1.heap.size + 1]? = some (.cells #[.int .i64 0, .int .i64 kind, .string text, .int .i64 line, .int .u32 num, .int .i64 line, .pointer none, .pointer none] 197 (0, 0))) := by
    show _ = _
    rw [hb5.block _ (by omega), HE4.out]
  clear hb5 HE4
  go_wp2_with fail
  refine (hS2 _ HB5.out).mono ?_
  rintro e w6 ⟨rfl, hb6⟩
  have x6 := hb6.size
  have HB6 := Lib.hid (HB5.out.trans hb6)
  have HE6 : Hid (w6.heap[w1.heap.size + 1]? = some (.cells #[.int .i64 0, .int .i64 kind, .string text, .int .i64 line, .int .u32 num, .int .i64 line, .pointer none, .pointer none] 197 (0, 0))) := by
    show _ = _
    rw [hb6.block _ (by omega), HE5.out]
  clear hb6 HE5
  go_wp2_with fail
  refine (hg _ HB6.out).mono ?_
  rintro e w9 ⟨rfl, hb9⟩
  exact ⟨rfl, rfl, (HB6.out.trans hb9).kp rb⟩

end Go.Proofs.YtgjgaeloehfhiaaGreatDoor
