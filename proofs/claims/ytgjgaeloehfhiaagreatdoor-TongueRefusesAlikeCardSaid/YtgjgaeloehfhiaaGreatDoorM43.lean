/- The listing's text, line by line and field by field: plain. Conditions: none. -/
import Derived.Test.YtgjgaeloehfhiaaGreatDoorM37
import Derived.Lib.SplitLaws
import Derived.Lib.SlTrimSet
import Derived.Lib.IndexAny
import Derived.Lib.ParseIntBCases
import Derived.Test.YtgjgaeloehfhiaaGreatDoorSh
import Derived.Shelf.Strings.SlTrimAscii
section
namespace Go.Proofs.YtgjgaeloehfhiaaGreatDoor
open Go.RowKit

/-- A sign of a name or a field. -/
def txt (c : UInt8) : Bool := decide (c.toNat < 128) && (c != 9) && (c != 10) && (c != 32) && (c != 44) && (c != 58) && (c != 59)
/-- A word of such signs. -/
def isW (l : List UInt8) : Prop := l ≠ [] ∧ ∀ c ∈ l, txt c = true

theorem dec_digit : ∀ (n : Nat), ∀ c ∈ Lib.decDigits n, 48 ≤ c.toNat ∧ c.toNat ≤ 57 := by
  intro n
  induction n using Nat.strongRecOn with
  | _ n ih =>
    intro c hc
    have hd : ∀ k, k < 10 → 48 ≤ (UInt8.ofNat (48 + k)).toNat ∧ (UInt8.ofNat (48 + k)).toNat ≤ 57 := by decide
    rw [Lib.decDigits] at hc
    split at hc
    · simp only [List.mem_singleton] at hc
      subst hc
      exact hd n (by assumption)
    · simp only [List.mem_append, List.mem_singleton] at hc
      rcases hc with hc | rfl
      · exact ih (n / 10) (by omega) c hc
      · exact hd _ (by omega)
theorem dec_ne (n : Nat) : Lib.decDigits n ≠ [] := by
  rw [Lib.decDigits]
  split <;> simp
set_option maxRecDepth 100000 in
theorem digit_txt : ∀ c : UInt8, 48 ≤ c.toNat ∧ c.toNat ≤ 57 → txt c = true := by
  intro c h
  have : ∀ k, k < 256 → (48 ≤ k ∧ k ≤ 57) → txt (UInt8.ofNat k) = true := by decide
  have := this c.toNat (by have := c.toNat_lt; omega) h
  simpa using this
theorem dec_W (n : Nat) : isW (Lib.decDigits n) := ⟨dec_ne n, fun c hc => digit_txt c (dec_digit n c hc)⟩
theorem cons_W {c : UInt8} {l : List UInt8} (hc : txt c = true) (hl : isW l) : isW (c :: l) := ⟨by simp, fun x hx => by rcases List.mem_cons.1 hx with rfl | h; exact hc; exact hl.2 x h⟩
theorem itoa_W (n : Int) : isW (Lib.itoa n) := by
  unfold Lib.itoa
  split
  · exact cons_W (by decide) (dec_W _)
  · exact dec_W _
theorem fields_W (i : Ins) : ∀ f ∈ fieldsF i, isW f := by
  intro f hf
  unfold fieldsF at hf
  simp only [List.mem_append] at hf
  rcases hf with (hf | hf) | hf
  · split at hf
    · simp only [List.mem_singleton] at hf; subst hf; exact cons_W (by decide) (dec_W _)
    · simp at hf
  · split at hf
    · simp only [List.mem_singleton] at hf; subst hf; exact cons_W (by decide) (dec_W _)
    · simp at hf
  · split at hf
    · simp at hf
    · simp only [List.mem_singleton] at hf; subst hf; exact itoa_W _
set_option maxRecDepth 100000 in
theorem name_W (op : Nat) (h0 : 0 < op) (h : op < 27) : isW (isaRow op).1 := by
  have : ∀ op < 27, 0 < op → (isaRow op).1 ≠ [] ∧ ∀ c ∈ (isaRow op).1, txt c = true := by decide
  exact this op h h0

/-- A line without its end. -/
def bodyF (i : Ins) : List UInt8 := (isaRow i.op.toNat).1 ++ (if fieldsF i = [] then [] else 32 :: Lib.join (fieldsF i) [44, 32])
theorem line_body (i : Ins) : lineF i = bodyF i ++ [10] := rfl

/- Where a sign is. -/
theorem index_no {c : UInt8} : ∀ {l : List UInt8}, c ∉ l → Lib.index l [c] = -1
  | [], _ => rfl
  | b :: l, h => by
    simp only [List.mem_cons, not_or] at h
    have hp : [c].isPrefixOf (b :: l) = false := by simp [List.isPrefixOf]; exact h.1
    simp [Lib.index, hp, index_no h.2]
theorem index_yes {c : UInt8} {r : List UInt8} : ∀ {l : List UInt8}, c ∉ l → Lib.index (l ++ c :: r) [c] = l.length
  | [], _ => by simp [Lib.index, List.isPrefixOf]
  | b :: l, h => by
    simp only [List.mem_cons, not_or] at h
    have hp : [c].isPrefixOf (b :: (l ++ c :: r)) = false := by simp [List.isPrefixOf]; exact h.1
    have hi := index_yes (r := r) h.2
    have hn : ((l.length : Int) == -1) = false := by rw [beq_eq_false_iff_ne]; omega
    simp [Lib.index, hp, hi, hn]
theorem cut_no {c : UInt8} {l : List UInt8} (h : c ∉ l) : Lib.cut l [c] = (l, [], false) := by
  unfold Lib.cut
  rw [index_no h]
  rfl
theorem split_K {c : UInt8} : ∀ (ls : List (List UInt8)) (last : List UInt8) (k : Nat), (∀ l ∈ ls, c ∉ l) → c ∉ last → ls.length ≤ k → Lib.splitK [c] 0 k (ls.flatMap (· ++ [c]) ++ last) = ls ++ [last]
  | [], last, k, _, hl, _ => by
    cases k with
    | zero => rfl
    | succ k => simp [Lib.splitK, index_no hl]
  | l :: ls, last, k, h, hl, hk => by
    cases k with
    | zero => simp at hk
    | succ k =>
      have h1 := h l (by simp)
      have e : (l :: ls).flatMap (· ++ [c]) ++ last = l ++ c :: (ls.flatMap (· ++ [c]) ++ last) := by simp
      have hn : ((l.length : Int) == -1) = false := by rw [beq_eq_false_iff_ne]; omega
      rw [e]
      unfold Lib.splitK
      rw [index_yes h1, hn]
      have hd : (l ++ c :: (ls.flatMap (· ++ [c]) ++ last)).drop ((l.length : Int).toNat + [c].length) = ls.flatMap (· ++ [c]) ++ last := by
        rw [show ((l.length : Int).toNat + [c].length) = l.length + 1 by simp, List.drop_append]
        simp
      rw [hd, split_K ls last k (fun x hx => h x (by simp [hx])) hl (by simpa using hk)]
      simp
theorem count_K {c : UInt8} : ∀ (ls : List (List UInt8)) (last : List UInt8), (∀ l ∈ ls, c ∉ l) → c ∉ last → Lib.count (ls.flatMap (· ++ [c]) ++ last) [c] = ls.length := by
  intro ls last h hl
  rw [Lib.count_one]
  induction ls with
  | nil => simpa using List.count_eq_zero.2 hl
  | cons l ls ih =>
    have e : (l :: ls).flatMap (· ++ [c]) ++ last = l ++ c :: (ls.flatMap (· ++ [c]) ++ last) := by simp
    rw [e, List.count_append, List.count_cons_self, ih (fun x hx => h x (by simp [hx])), List.count_eq_zero.2 (h l (by simp))]
    simp
/-- A text split. -/
theorem split_B {c : UInt8} {s : ByteArray} (ls : List (List UInt8)) (last : List UInt8) (hs : s.data.toList = ls.flatMap (· ++ [c]) ++ last) (h : ∀ l ∈ ls, c ∉ l) (hl : c ∉ last) :
    Lib.countB s ⟨#[c]⟩ = ls.length ∧ (Lib.splitB ⟨#[c]⟩ 0 (Lib.countB s ⟨#[c]⟩) s).map (·.data.toList) = ls ++ [last] := by
  have h1 : Lib.countB s ⟨#[c]⟩ = ls.length := by
    show Lib.count s.data.toList [c] = _
    rw [hs]
    exact count_K ls last h hl
  refine ⟨h1, ?_⟩
  rw [Lib.splitB_data, h1, hs]
  exact split_K ls last _ h hl (Nat.le_refl _)

theorem W_not {c : UInt8} (hc : txt c = false) {l : List UInt8} (h : isW l) : c ∉ l := fun hm => by rw [h.2 c hm] at hc; cases hc
theorem join_not {c : UInt8} (hc : txt c = false) (h44 : c ≠ 44) (h32 : c ≠ 32) : ∀ (F : List (List UInt8)), F.length ≤ 3 → (∀ f ∈ F, isW f) → c ∉ Lib.join F [44, 32]
  | [], _, _ => by simp [Lib.join, List.intercalate]
  | [a], _, h => by simpa [Lib.join, List.intercalate] using W_not hc (h a (by simp))
  | [a, b], _, h => by simpa [Lib.join, List.intercalate, h44, h32] using ⟨W_not hc (h a (by simp)), W_not hc (h b (by simp))⟩
  | [a, b, d], _, h => by simpa [Lib.join, List.intercalate, h44, h32] using ⟨W_not hc (h a (by simp)), W_not hc (h b (by simp)), W_not hc (h d (by simp))⟩
  | _ :: _ :: _ :: _ :: _, h, _ => by simp at h
theorem body_not {c : UInt8} (hc : txt c = false) (h44 : c ≠ 44) (h32 : c ≠ 32) {i : Ins} (hi : i.good) : c ∉ bodyF i := by
  have hF := fields_W i
  have hl := (fields_len hi).1
  obtain ⟨op, a, b, e1, e2, e3, hok⟩ := hi
  have hn := name_W i.op.toNat (by have := hok.op0; omega) (by have := hok.op1; omega)
  unfold bodyF
  simp only [List.mem_append, not_or]
  refine ⟨W_not hc hn, ?_⟩
  split
  · simp
  · simp only [List.mem_cons, not_or]
    exact ⟨h32, join_not hc h44 h32 _ hl hF⟩

/-- The text's lines. -/
theorem text_lines (code : List Ins) (hg : ∀ i ∈ code, i.good) : Lib.countB ⟨(textF code).toArray⟩ ⟨#[10]⟩ = code.length ∧ (Lib.splitB ⟨#[10]⟩ 0 (Lib.countB ⟨(textF code).toArray⟩ ⟨#[10]⟩) ⟨(textF code).toArray⟩).map (·.data.toList) = code.map bodyF ++ [[]] := by
  have h := split_B (c := 10) (s := ⟨(textF code).toArray⟩) (code.map bodyF) [] (by
    have e : lineF = fun a => bodyF a ++ [10] := rfl
    simp [textF, List.flatMap_map, e]) (fun l hl => by
    obtain ⟨i, hi, rfl⟩ := List.mem_map.1 hl
    exact body_not (by decide) (by decide) (by decide) (hg i hi)) (by simp)
  simpa using h

/-- The pieces between commas. -/
def piecesF : List (List UInt8) → List (List UInt8)
  | [] => []
  | f :: l => f :: l.map (32 :: ·)
theorem split_fields {s : ByteArray} (F : List (List UInt8)) (hs : s.data.toList = Lib.join F [44, 32]) (h0 : F ≠ []) (hl : F.length ≤ 3) (hF : ∀ f ∈ F, isW f) :
    Lib.countB s ⟨#[44]⟩ + 1 = F.length ∧ (Lib.splitB ⟨#[44]⟩ 0 (Lib.countB s ⟨#[44]⟩) s).map (·.data.toList) = piecesF F := by
  have hw := fun f hf => W_not (c := 44) (by decide) (hF f hf)
  match F, h0, hl, hs, hw with
  | [a], _, _, hs, hw =>
    have h := split_B (c := 44) (s := s) [] a (by simpa [Lib.join, List.intercalate] using hs) (by simp) (hw a (by simp))
    exact ⟨by rw [h.1]; rfl, h.2⟩
  | [a, b], _, _, hs, hw =>
    have h := split_B (c := 44) (s := s) [a] (32 :: b) (by simpa [Lib.join, List.intercalate] using hs) (by simpa using hw a (by simp)) (by simpa using hw b (by simp))
    exact ⟨by rw [h.1]; rfl, h.2⟩
  | [a, b, d], _, _, hs, hw =>
    have h := split_B (c := 44) (s := s) [a, 32 :: b] (32 :: d) (by simpa [Lib.join, List.intercalate] using hs) (by simpa using ⟨hw a (by simp), hw b (by simp)⟩) (by simpa using hw d (by simp))
    exact ⟨by rw [h.1]; rfl, h.2⟩
  | _ :: _ :: _ :: _ :: _, _, hl, _, _ => simp at hl

/- Trimming of blanks. -/
def blank (l : List UInt8) : Prop := ∀ c, l.head? = some c → ([32, 9] : List UInt8).contains c = false
theorem dropW_id {l : List UInt8} (h : blank l) : l.dropWhile (([32, 9] : List UInt8).contains ·) = l := by
  cases l with
  | nil => rfl
  | cons c r => rw [List.dropWhile_cons, if_neg (by rw [h c rfl]; simp)]
theorem trim_id {l : List UInt8} (h1 : blank l) (h2 : blank l.reverse) : Lib.trimS l [32, 9] = l := by
  unfold Lib.trimS Lib.trimRightS Lib.trimLeftS
  rw [dropW_id h2, List.reverse_reverse, dropW_id h1]
theorem trim_sp {l : List UInt8} (h0 : l ≠ []) (h1 : blank l) (h2 : blank l.reverse) : Lib.trimS (32 :: l) [32, 9] = l := by
  unfold Lib.trimS Lib.trimRightS Lib.trimLeftS
  have hb : blank (32 :: l).reverse := fun c hc => h2 c (by
    rw [List.reverse_cons] at hc
    cases hr : l.reverse with
    | nil => simp at hr; exact absurd hr h0
    | cons x y => rw [hr] at hc; simpa using hc)
  rw [dropW_id hb, List.reverse_reverse, List.dropWhile_cons, if_pos (by decide), dropW_id h1]
theorem W_blank {l : List UInt8} (h : isW l) : blank l ∧ blank l.reverse := by
  have key : ∀ c, txt c = true → ([32, 9] : List UInt8).contains c = false := fun c hc => by
    rw [Bool.eq_false_iff]
    intro hh
    simp only [List.contains_cons, List.contains_nil, Bool.or_false, Bool.or_eq_true, beq_iff_eq] at hh
    rcases hh with rfl | rfl <;> revert hc <;> decide
  refine ⟨fun c hc => key c (h.2 c ?_), fun c hc => key c (h.2 c ?_)⟩
  · exact List.mem_of_mem_head? hc
  · exact List.mem_reverse.1 (List.mem_of_mem_head? hc)
theorem head_app {l r : List UInt8} (h : isW l) : blank (l ++ r) := fun c hc => (W_blank h).1 c (by
  cases l with
  | nil => exact absurd rfl h.1
  | cons x y => simpa using hc)
theorem last_app {l r : List UInt8} (h : isW r) : blank (l ++ r).reverse := fun c hc => (W_blank h).2 c (by
  rw [List.reverse_append] at hc
  cases hr : r.reverse with
  | nil => simp at hr; exact absurd hr h.1
  | cons x y => rw [hr] at hc; simpa using hc)
theorem join_blank : ∀ (F : List (List UInt8)), F ≠ [] → F.length ≤ 3 → (∀ f ∈ F, isW f) → Lib.join F [44, 32] ≠ [] ∧ blank (Lib.join F [44, 32]) ∧ blank (Lib.join F [44, 32]).reverse
  | [], h, _, _ => absurd rfl h
  | [a], _, _, h => by
    have := h a (by simp)
    simp only [Lib.join, List.intercalate, List.intersperse_singleton, List.flatten_cons, List.flatten_nil, List.append_nil]
    exact ⟨this.1, (W_blank this).1, (W_blank this).2⟩
  | [a, b], _, _, h => by
    have ha := h a (by simp)
    have hb := h b (by simp)
    have e : Lib.join [a, b] [44, 32] = a ++ ([44, 32] ++ b) := by simp [Lib.join, List.intercalate]
    rw [e]
    exact ⟨by simp, head_app ha, by rw [← List.append_assoc]; exact last_app hb⟩
  | [a, b, d], _, _, h => by
    have ha := h a (by simp)
    have hd := h d (by simp)
    have e : Lib.join [a, b, d] [44, 32] = a ++ ([44, 32] ++ b ++ [44, 32] ++ d) := by simp [Lib.join, List.intercalate]
    rw [e]
    exact ⟨by simp, head_app ha, by rw [← List.append_assoc]; exact last_app hd⟩
  | _ :: _ :: _ :: _ :: _, _, h, _ => by simp at h

/- The name and what is behind it. -/
theorem any_no {l : List UInt8} (h : ∀ c ∈ l, txt c = true) : Lib.indexAny l [32, 9] = -1 := by
  induction l with
  | nil => rfl
  | cons b l ih =>
    have := (W_blank (l := [b]) ⟨by simp, fun c hc => h c (by simp at hc; simp [hc])⟩).1 b rfl
    rw [Lib.indexAny, this, ih (fun c hc => h c (by simp [hc]))]
    rfl
theorem any_yes {l r : List UInt8} (h : ∀ c ∈ l, txt c = true) : Lib.indexAny (l ++ 32 :: r) [32, 9] = l.length := by
  induction l with
  | nil => rfl
  | cons b l ih =>
    have := (W_blank (l := [b]) ⟨by simp, fun c hc => h c (by simp at hc; simp [hc])⟩).1 b rfl
    have hn : ((l.length : Int) == -1) = false := by rw [beq_eq_false_iff_ne]; omega
    simp only [List.cons_append]
    rw [Lib.indexAny, this, ih (fun c hc => h c (by simp [hc])), hn]
    simp

/- Numbers. -/
def valD (acc : Nat) (l : List UInt8) : Nat := l.foldl (fun a c => a * 10 + (c.toNat - 48)) acc
theorem valD_dec : ∀ n : Nat, valD 0 (Lib.decDigits n) = n := by
  intro n
  have hd : ∀ k, k < 10 → (UInt8.ofNat (48 + k)).toNat - 48 = k := by decide
  induction n using Nat.strongRecOn with
  | _ n ih =>
    rw [Lib.decDigits]
    split
    · simp only [valD, List.foldl_cons, List.foldl_nil]
      rw [hd n (by assumption)]
      omega
    · have := ih (n / 10) (by omega)
      simp only [valD, List.foldl_append, List.foldl_cons, List.foldl_nil] at this ⊢
      rw [this, hd _ (by omega)]
      omega
theorem parse_dig (M : Nat) (hM : 1000000000 ≤ M) : ∀ (l : List UInt8) (acc : Nat), (∀ c ∈ l, 48 ≤ c.toNat ∧ c.toNat ≤ 57) → (acc + 1) * 10 ^ l.length ≤ 1000000000 → Lib.parseUintM M acc l = .ok (valD acc l)
  | [], acc, _, _ => rfl
  | c :: l, acc, h, hb => by
    have hc := h c (by simp)
    have hp : 1 ≤ 10 ^ l.length := Nat.pos_of_ne_zero (by simp)
    have hb' : (acc + 1) * 10 * 10 ^ l.length ≤ 1000000000 := by rw [List.length_cons, Nat.pow_succ] at hb; rw [Nat.mul_assoc, Nat.mul_comm 10]; exact hb
    have hle : (acc + 1) * 10 ≤ 1000000000 := Nat.le_trans (Nat.le_mul_of_pos_right _ hp) hb'
    rw [Lib.parseUintM, if_pos hc, if_neg (by omega), if_neg (by omega), parse_dig M hM l _ (fun x hx => h x (by simp [hx])) (Nat.le_trans (Nat.mul_le_mul_right _ (by omega)) hb')]
    rfl
theorem parse_dec (n : Nat) (hn : n ≤ 65535) : Lib.parseIntB 64 (Lib.decDigits n) = .ok (n : Int) := by
  have hd := dec_digit n
  have hv := valD_dec n
  have hl := dec_len 4 n (by omega)
  have hne := dec_ne n
  generalize Lib.decDigits n = l at *
  cases l with
  | nil => exact absurd rfl hne
  | cons c r =>
    have hc := hd c (by simp)
    have h1 : Lib.parseUintB 64 (c :: r) = .ok n := by
      unfold Lib.parseUintB
      rw [if_neg (by simp), parse_dig _ (by decide) _ _ hd ?_, hv]
      have : 10 ^ (c :: r).length ≤ 10 ^ 5 := Nat.pow_le_pow_right (by omega) hl
      omega
    unfold Lib.parseIntB
    simp only
    rw [if_neg (by omega), h1]
    simp only
    rw [if_neg (by omega), if_neg (by omega), if_neg (by omega)]
end Go.Proofs.YtgjgaeloehfhiaaGreatDoor
end
section
/- The assembler: operations by name; registers. -/
namespace Go.Proofs.YtgjgaeloehfhiaaGreatDoor
open Go.RowKit

theorem isa_index (i : Nat) (h : i < 27) (w : World) : (Instr.index 104 (.agg isaV.toArray) (.int .i64 i)).run Tryz.prog w = .ok (.agg #[strV (isaRow i).1, .bool (isaRow i).2.1, .bool (isaRow i).2.2.1, .int .i64 (isaRow i).2.2.2.1, .bool (isaRow i).2.2.2.2]) w := by
  obtain rfl | rfl | rfl | rfl | rfl | rfl | rfl | rfl | rfl | rfl | rfl | rfl | rfl | rfl | rfl | rfl | rfl | rfl | rfl | rfl | rfl | rfl | rfl | rfl | rfl | rfl | rfl : i = 0 ∨ i = 1 ∨ i = 2 ∨ i = 3 ∨ i = 4 ∨ i = 5 ∨ i = 6 ∨ i = 7 ∨ i = 8 ∨ i = 9 ∨ i = 10 ∨ i = 11 ∨ i = 12 ∨ i = 13 ∨ i = 14 ∨ i = 15 ∨ i = 16 ∨ i = 17 ∨ i = 18 ∨ i = 19 ∨ i = 20 ∨ i = 21 ∨ i = 22 ∨ i = 23 ∨ i = 24 ∨ i = 25 ∨ i = 26 := by omega
  all_goals kernel_rfl
theorem isa_names (i j : Nat) (hi : i < 27) (hj : j < 27) (h : (isaRow i).1 = (isaRow j).1) : i = j := by
  have : ∀ i < 27, ∀ j < 27, (isaRow i).1 = (isaRow j).1 → i = j := by decide
  exact this i hi j hj h

set_option maxRecDepth 100000 in
set_option maxHeartbeats 1600000 in
theorem find_any (op : Nat) (h0 : 0 < op) (h1 : op < 27) (s : ByteArray) (hs : s.data.toList = (isaRow op).1) (w : World) (hg : CellsAt w 0 isaV) :
    Calls Tryz.prog 89 #[.string s] w fun e w' => e = .returned (.int .i64 op) ∧ Ext w w' := by
  have hix := isa_index
  have hnm := fun k (hk : k < 27) => isa_names k op hk h1
  have hne : s.toList.isEmpty = false := by
    rw [Lib.toList_data, hs]
    have := (name_W op h0 h1).1
    cases h : (isaRow op).1 with
    | nil => exact absurd h this
    | cons a b => rfl
  rw [← Lib.toList_data] at hs
  rw [← hs] at hnm
  have HS := Lib.hid hs
  have HNM := Lib.hid hnm
  clear hs hnm
  generalize hV : isaV = V at *
  have hlen : V.length = 135 := by rw [← hV]; rfl
  go_enter Tryz.func89, Tryz.ntmps89
  go_wp2_with (refine wpList_load_cells rfl 104 _ rfl 0 rfl V (.array 27 103) hg (by kernel_rfl) rfl (by rw [hlen]; kernel_rfl) ?_)
  go_loopw [6] (fun v wr => ∃ k : Nat, k ≤ op ∧ v = .int .i64 k ∧ Ext w wr) (fun v _ => 27 - (intOf v).toNat)
  case atStart => exact ⟨0, by omega, rfl, Ext.refl w⟩
  case round =>
    obtain ⟨k, hk, rfl, hb⟩ := hrel
    have hx := hix k (by omega)
    have hn := HNM.out k (by omega)
    clear hix
    by_cases he : (isaRow k).1 = s.toList
    · obtain rfl := hn he
      clear hn HNM
      generalize isaRow k = x at *
      obtain ⟨x1, x2, x3, x4, x5⟩ := x
      simp only at he
      go_wp2
      all_goals (go_ret; exact ⟨rfl, hb.alloc _⟩)
    · have hlt : k < op := by
        rcases Nat.lt_or_ge k op with h | h
        · exact h
        · obtain rfl : k = op := by omega
          exact absurd HS.out.symm he
      clear hn HNM
      generalize isaRow k = x at *
      obtain ⟨x1, x2, x3, x4, x5⟩ := x
      simp only at he
      have hf : (x1 == s.toList) = false := by simpa using he
      go_wp2
      exact ⟨⟨k + 1, by omega, by go_num, hb.alloc _⟩, by simp [intOf]; omega⟩

set_option maxRecDepth 100000 in
set_option maxHeartbeats 1600000 in
theorem reg_any (n : Nat) (hn : n < 8) (s : ByteArray) (hs : s.data.toList = 114 :: Lib.decDigits n) (w : World) :
    Calls Tryz.prog 132 #[.string s] w fun e w' => e = .returned (.tuple #[.int .i64 n, .bool true]) ∧ Ext w w' := by
  have hs' : s = ⟨#[114, UInt8.ofNat (48 + n)]⟩ := by
    rw [Lib.decDigits, dif_pos (by omega)] at hs
    cases s with
    | mk d => cases d with
      | mk l =>
        have hl : l = [114, UInt8.ofNat (48 + n)] := hs
        subst hl
        rfl
  subst hs'
  clear hs
  obtain rfl | rfl | rfl | rfl | rfl | rfl | rfl | rfl : n = 0 ∨ n = 1 ∨ n = 2 ∨ n = 3 ∨ n = 4 ∨ n = 5 ∨ n = 6 ∨ n = 7 := by omega
  all_goals
    go_enter Tryz.func132, Tryz.ntmps132
    go_wp2
    go_ret2
    exact ⟨rfl, Ext.refl _⟩
end Go.Proofs.YtgjgaeloehfhiaaGreatDoor
end
section
/- The assembler: numbers. -/
namespace Go.Proofs.YtgjgaeloehfhiaaGreatDoor
open Go.RowKit

theorem bytes_eq {s : ByteArray} {l : List UInt8} (h : s.data.toList = l) : (⟨l.toArray⟩ : ByteArray) = s := by
  subst h
  cases s
  simp
theorem cut_minus (d : ByteArray) (s : ByteArray) (hs : s.data.toList = 45 :: d.data.toList) (w : World) : Calls Tryz.prog 129 #[.string s, .string ⟨#[45]⟩] w fun e w' => e = .returned (.tuple #[.string d, .bool true]) ∧ w = w' := by
  refine (Tryz.strings_CutPrefix s ⟨#[45]⟩ w).mono ?_
  rintro e w' ⟨rfl, rfl⟩
  have h1 : Lib.hasPrefix s.data.toList [45] = true := by rw [hs]; simp [Lib.hasPrefix, List.isPrefixOf]
  have h2 : Lib.trimPrefix s.data.toList [45] = d.data.toList := by unfold Lib.trimPrefix; rw [h1, if_pos rfl, hs]; rfl
  refine ⟨?_, rfl⟩
  show Ending.returned (.tuple #[.string ⟨(Lib.trimPrefix s.data.toList [45]).toArray⟩, .bool (Lib.hasPrefix s.data.toList [45])]) = _
  rw [h1, h2, bytes_eq rfl]
theorem cut_none (s p : ByteArray) (h : Lib.hasPrefix s.data.toList p.data.toList = false) (w : World) : Calls Tryz.prog 129 #[.string s, .string p] w fun e w' => e = .returned (.tuple #[.string s, .bool false]) ∧ w = w' := by
  refine (Tryz.strings_CutPrefix s p w).mono ?_
  rintro e w' ⟨rfl, rfl⟩
  have h2 : Lib.trimPrefix s.data.toList p.data.toList = s.data.toList := by unfold Lib.trimPrefix; rw [h, if_neg (by simp)]
  refine ⟨?_, rfl⟩
  rw [h, h2, bytes_eq rfl]
theorem dec_prefix (n : Nat) (p : List UInt8) (c : UInt8) (hc : c ∈ p) (hd : ¬ (48 ≤ c.toNat ∧ c.toNat ≤ 57)) : Lib.hasPrefix (Lib.decDigits n) p = false := by
  rw [Bool.eq_false_iff]
  intro h
  have h' : p <+: Lib.decDigits n := List.isPrefixOf_iff_prefix.1 h
  exact hd (dec_digit n c (h'.subset hc))
theorem digit_at (c : UInt8) (h : 48 ≤ c.toNat ∧ c.toNat ≤ 57) (w : World) : Calls Tryz.prog 91 #[.string ⟨#[48, 49, 50, 51, 52, 53, 54, 55, 56, 57]⟩, .int .u8 c.toNat] w fun e w' => (∃ k : Nat, e = .returned (.int .i64 k) ∧ k < 10) ∧ w = w' := by
  refine (Tryz.strings_IndexByte _ _ w).mono ?_
  rintro e w' ⟨rfl, rfl⟩
  refine ⟨?_, rfl⟩
  have key : ∀ k, k < 256 → 48 ≤ k ∧ k ≤ 57 → ∃ j : Nat, Lib.indexByte [48, 49, 50, 51, 52, 53, 54, 55, 56, 57] (UInt8.ofNat k) = j ∧ j < 10 := by
    intro k hk h
    obtain rfl | rfl | rfl | rfl | rfl | rfl | rfl | rfl | rfl | rfl : k = 48 ∨ k = 49 ∨ k = 50 ∨ k = 51 ∨ k = 52 ∨ k = 53 ∨ k = 54 ∨ k = 55 ∨ k = 56 ∨ k = 57 := by omega
    · exact ⟨0, by decide, by decide⟩
    · exact ⟨1, by decide, by decide⟩
    · exact ⟨2, by decide, by decide⟩
    · exact ⟨3, by decide, by decide⟩
    · exact ⟨4, by decide, by decide⟩
    · exact ⟨5, by decide, by decide⟩
    · exact ⟨6, by decide, by decide⟩
    · exact ⟨7, by decide, by decide⟩
    · exact ⟨8, by decide, by decide⟩
    · exact ⟨9, by decide, by decide⟩
  obtain ⟨j, hj, hj2⟩ := key c.toNat c.toNat_lt h
  refine ⟨j, ?_, hj2⟩
  have e1 : ((c.toNat : Int)).toNat.toUInt8 = UInt8.ofNat c.toNat := by simp
  rw [e1]
  exact ret_int hj

set_option maxRecDepth 100000 in
set_option maxHeartbeats 1600000 in
theorem number_core (neg : Bool) (n : Nat) (hn : n ≤ 65535) (s d : ByteArray) (hd : d.data.toList = Lib.decDigits n) (w : World)
    (hcp : ∀ w, Calls Tryz.prog 129 #[.string s, .string ⟨#[45]⟩] w fun e w' => e = .returned (.tuple #[.string d, .bool neg]) ∧ w = w') :
    Calls Tryz.prog 88 #[.string s] w fun e w' => e = .returned (.tuple #[.int .i64 (if neg then -(n : Int) else n), .bool true]) ∧ Ext w w' := by
  have hcx := cut_none d ⟨#[48, 120]⟩ (by rw [hd]; exact dec_prefix n _ 120 (by simp) (by decide))
  have hsz : d.size ≤ 5 := by rw [Lib.size_eq, hd]; exact dec_len 4 n (by omega)
  have hem : d.toList.isEmpty = false := by
    rw [Lib.toList_data, hd]
    have := dec_ne n
    cases h : Lib.decDigits n with
    | nil => exact absurd h this
    | cons a b => rfl
  have hdig : ∀ (k : Nat) (hk : k < d.size), 48 ≤ d[k].toNat ∧ d[k].toNat ≤ 57 := fun k hk => dec_digit n _ (by
    rw [← hd]
    have : d[k] = d.data.toList[k]'(by simpa using hk) := rfl
    rw [this]
    exact List.getElem_mem _)
  have hpar : ∀ w, Calls Tryz.prog 130 #[.string d, .int .i64 10, .int .i64 64] w fun e w' => e = .returned (.tuple #[.int .i64 (n : Int), .nilIface]) ∧ Ext w w' := fun w => (Tryz.strconv_ParseInt_10_at64_ok d (by omega) (n : Int) (by rw [hd]; exact parse_dec n hn) w).mono (by
    rintro e w' ⟨rfl, hw⟩
    rcases hw with rfl | ⟨t, rfl⟩
    · exact ⟨rfl, Ext.refl _⟩
    · exact ⟨rfl, .of_below (Lib.bytesWorld_below _ 5 t)⟩)
  have hw : IntKind.i64.wrap (-(n : Int)) = -(n : Int) := IntWalk.i64_in _ (by omega)
  have HCP := Lib.hid hcp
  have HCX := Lib.hid hcx
  have HD := Lib.hid hdig
  have HP := Lib.hid hpar
  clear hcp hcx hdig hpar hd
  go_enter Tryz.func88, Tryz.ntmps88
  go_wp2_with fail
  refine (HCP.out _).mono ?_
  rintro e w1 ⟨rfl, rfl⟩
  go_wp2_with fail
  refine (HCX.out _).mono ?_
  rintro e w1 ⟨rfl, rfl⟩
  go_wp2_with fail
  go_loopw [36, 11] (fun v x wr => ∃ k : Nat, k ≤ d.size ∧ v = .int .i64 k ∧ wr = w) (fun v _ _ => d.size - (intOf v).toNat)
  case atStart => exact ⟨0, by omega, rfl, by first | rfl | trivial⟩
  case round =>
    obtain ⟨k, hk, rfl, hww⟩ := hrel
    subst hww
    by_cases hlt : k < d.size
    · have hc := HD.out k hlt
      go_wp2_with fail
      refine (digit_at _ hc _).mono ?_
      rintro e w1 ⟨⟨j, rfl, hj⟩, rfl⟩
      go_wp2_with fail
      exact ⟨⟨k + 1, by omega, by go_num, by first | rfl | trivial⟩, by simp [intOf]; omega⟩
    · go_wp2_with fail
      refine (HP.out _).mono ?_
      rintro e w1 ⟨rfl, hE⟩
      have HE := Lib.hid hE
      clear hE
      cases neg
      · go_wp2_with fail
        go_ret2
        exact ⟨rfl, HE.out⟩
      · go_wp2_with fail
        go_ret2
        exact ⟨rfl, HE.out⟩

theorem number_any (imm : Int) (h0 : -32768 ≤ imm) (h1 : imm ≤ 65535) (s : ByteArray) (hs : s.data.toList = Lib.itoa imm) (w : World) :
    Calls Tryz.prog 88 #[.string s] w fun e w' => e = .returned (.tuple #[.int .i64 imm, .bool true]) ∧ Ext w w' := by
  unfold Lib.itoa at hs
  split at hs
  · have h := number_core true imm.natAbs (by omega) s ⟨(Lib.decDigits imm.natAbs).toArray⟩ (by simp) w (fun w => cut_minus _ s (by simpa using hs) w)
    rw [if_pos rfl, show -(imm.natAbs : Int) = imm by omega] at h
    exact h
  · have h := number_core false imm.toNat (by omega) s s hs w (fun w => cut_none s ⟨#[45]⟩ (by rw [hs]; exact dec_prefix _ _ 45 (by simp) (by decide)) w)
    rw [if_neg (by simp), show (imm.toNat : Int) = imm by omega] at h
    exact h
end Go.Proofs.YtgjgaeloehfhiaaGreatDoor
end
section
/- The assembler: the next field of an operation. -/
namespace Go.Proofs.YtgjgaeloehfhiaaGreatDoor
open Go.RowKit

/-- What the fields' variable holds: the fields from the k-th on. -/
def RestV (g k n : Nat) (v : Value) : Prop := (n = 0 ∧ ∃ a c, v = .slice a 0 c) ∨ (0 < n ∧ ∃ c, n ≤ c ∧ v = .slice (some ⟨g, k, none⟩) n c)

set_option maxRecDepth 100000 in
set_option maxHeartbeats 1600000 in
theorem field_next (fb g k n : Nat) (s : ByteArray) (v : Value) (w : World) (hv : RestV g k (n + 1) v) (hf : w.heap[fb]? = some (.cells #[v] 34 (0, 0))) (hc : w.cell? ⟨g, k, none⟩ = some (.string s)) (hn : n ≤ 10) :
    Calls Tryz.prog 131 #[.pointer (some ⟨fb, 0, none⟩)] w fun e w' => e = .returned (.string s) ∧ ∃ v', RestV g (k + 1) n v' ∧ w' = w.setCell ⟨fb, 0, none⟩ v' := by
  obtain ⟨c, hcn, rfl⟩ : ∃ c, n + 1 ≤ c ∧ v = .slice (some ⟨g, k, none⟩) (n + 1) c := by
    rcases hv with ⟨h, _⟩ | ⟨_, c, h1, h2⟩
    · omega
    · exact ⟨c, h1, h2⟩
  obtain ⟨f0, f1, f2⟩ := cells_of_heap hf
  have f0 := f0 0
  have f1 := f1 0
  simp only [List.getElem?_toArray, List.getElem?_cons_zero] at f0
  clear hf hv
  by_cases hc1 : c = 1
  · obtain rfl : n = 0 := by omega
    subst hc1
    go_enter Tryz.func131, Tryz.ntmps131
    go_wp2
    go_ret
    exact ⟨rfl, _, .inl ⟨rfl, _, _, rfl⟩, rfl⟩
  · have hfin : RestV g (k + 1) n (.slice (some ⟨g, k + 1, none⟩) n (c - 1)) := by
      rcases Nat.eq_zero_or_pos n with rfl | h
      · exact .inl ⟨rfl, _, _, rfl⟩
      · exact .inr ⟨h, _, by omega, rfl⟩
    have HFIN := Lib.hid hfin
    clear hfin
    go_enter Tryz.func131, Tryz.ntmps131
    go_wp2
    go_ret
    exact ⟨rfl, _, HFIN.out, rfl⟩
end Go.Proofs.YtgjgaeloehfhiaaGreatDoor
end
section
/- The assembler: the library's calls, as it makes them. -/
namespace Go.Proofs.YtgjgaeloehfhiaaGreatDoor
open Go.RowKit

/-- A string of these bytes. -/
def Str (s : ByteArray) (l : List UInt8) : Prop := s.data.toList = l
theorem str_eq {s : ByteArray} {l : List UInt8} (h : Str s l) : (⟨l.toArray⟩ : ByteArray) = s := by
  unfold Str at h
  subst h
  cases s
  simp
theorem str_mk (l : List UInt8) : Str ⟨l.toArray⟩ l := by simp [Str]
theorem str_size {s : ByteArray} {l : List UInt8} (h : Str s l) : s.size = l.length := by rw [Lib.size_eq, h]

theorem trim_call (s : ByteArray) (l : List UInt8) (hs : s.size ≤ 100000) (ht : Lib.trimS s.data.toList [32, 9] = l) (w : World) :
    Calls Tryz.prog 44 #[.string s, .string ⟨#[32, 9]⟩] w fun e w' => ∃ t : ByteArray, e = .returned (.string t) ∧ Str t l ∧ Ext w w' := by
  refine (Any.strings_Trim_laid Tryz.lays160 (by kernel_rfl) s ⟨#[32, 9]⟩ w (by omega) (by decide) (ascii_of_all (by decide))).mono ?_
  rintro e w' ⟨rfl, hb⟩
  have ht' : Lib.trimS s.data.toList (ByteArray.mk #[32, 9]).data.toList = l := ht
  rw [ht']
  exact ⟨_, rfl, str_mk l, .of_below hb⟩
theorem cut_call {N : Nat} (s : ByteArray) (c : UInt8) (hs : s.size ≤ 100000) (hc : c ∉ s.data.toList) (w : World) (hG : Gl N w) :
    Calls Tryz.prog 43 #[.string s, .string ⟨#[c]⟩] w fun e w' => e = .returned (.tuple #[.string s, .string ⟨#[]⟩, .bool false]) ∧ Ext w w' := by
  obtain ⟨m, hm⟩ := hG.maxlen
  refine (Tryz.strings_Cut s ⟨#[c]⟩ m w (by omega) (hm.2 0 _ rfl)).mono ?_
  rintro e w' ⟨rfl, n, rfl⟩
  have h : Lib.cut s.data.toList (ByteArray.mk #[c]).data.toList = (s.data.toList, [], false) := cut_no hc
  rw [h]
  refine ⟨?_, (Ext.refl w).drewN n⟩
  rfl
theorem any_call (s : ByteArray) (hs : s.size ≤ 100000) (h : ∀ c ∈ s.data.toList, c.toNat < 128) (w : World) :
    Calls Tryz.prog 46 #[.string s, .string ⟨#[32, 9]⟩] w fun e w' => e = .returned (.int .i64 (Lib.indexAny s.data.toList [32, 9])) ∧ Ext w w' := by
  refine (Tryz.strings_IndexAny_laid s ⟨#[32, 9]⟩ w (by omega) (by decide) (fun j b hb => h b (List.mem_of_getElem? hb)) (ascii_of_all (by decide))).mono ?_
  rintro e w' ⟨rfl, hb⟩
  exact ⟨rfl, .of_below hb⟩
/-- The pieces of a split text, in memory. -/
def PiecesAt (w : World) (g : Nat) (ps : List ByteArray) : Prop := w.heap[g]? = some (.cells (ps.map Value.string).toArray 9 (0, 0))
theorem split_call {N : Nat} (s : ByteArray) (c : UInt8) (P : List (List UInt8)) (hs : s.size ≤ 100000) (h : (Lib.splitB ⟨#[c]⟩ 0 (Lib.countB s ⟨#[c]⟩) s).map (·.data.toList) = P) (hn : Lib.countB s ⟨#[c]⟩ + 1 = P.length) (w : World) (hG : Gl N w) :
    Calls Tryz.prog 21 #[.string s, .string ⟨#[c]⟩] w fun e w' => ∃ ps : List ByteArray, e = .returned (.slice (some ⟨w.heap.size, 0, none⟩) P.length P.length) ∧ ps.map (·.data.toList) = P ∧ PiecesAt w' w.heap.size ps ∧ Ext w w' ∧ w'.heap.size = w.heap.size + 1 := by
  obtain ⟨m, hm⟩ := hG.maxlen
  refine (Tryz.strings_Split s ⟨#[c]⟩ m w (by omega) (hm.2 0 _ rfl) (by show 1 ≤ 1; omega)).mono ?_
  rintro e w' ⟨rfl, rfl⟩
  refine ⟨_, by rw [hn], h, ?_, (Ext.refl w).alloc _, szA _ _⟩
  unfold PiecesAt
  rw [heapA, if_pos rfl]
theorem piece_at {w : World} {g : Nat} {ps : List ByteArray} {P : List (List UInt8)} (h : PiecesAt w g ps) (hp : ps.map (·.data.toList) = P) (k : Nat) (hk : k < P.length) : ∃ s : ByteArray, w.cell? ⟨g, k, none⟩ = some (.string s) ∧ Str s (P.getD k []) := by
  have hl : k < ps.length := by rw [← hp] at hk; simpa using hk
  refine ⟨ps[k], ?_, ?_⟩
  · rw [cell_of_heap h]
    simp [hl]
  · subst hp
    simp [Str, List.getD_eq_getElem?_getD, hl]
theorem pieces_keep {w w' : World} {g : Nat} {ps : List ByteArray} (h : PiecesAt w g ps) (hE : Ext w w') : PiecesAt w' g ps := (hE.block g (heap_lt h)).trans h

/- What the lines and the fields are. -/
theorem pieces_len (F : List (List UInt8)) : (piecesF F).length = F.length := by cases F <;> simp [piecesF]
theorem pieces_trim (F : List (List UInt8)) (hF : ∀ f ∈ F, isW f) (k : Nat) (hk : k < F.length) : Lib.trimS ((piecesF F).getD k []) [32, 9] = F.getD k [] := by
  cases F with
  | nil => simp at hk
  | cons f l =>
    cases k with
    | zero =>
      have := W_blank (hF f (by simp))
      exact trim_id this.1 this.2
    | succ k =>
      have hl : k < l.length := by simpa using hk
      have hw := hF l[k] (by simp)
      have := W_blank hw
      have e1 : (piecesF (f :: l)).getD (k + 1) [] = 32 :: l[k] := by simp [piecesF, List.getD_eq_getElem?_getD, hl]
      have e2 : (f :: l).getD (k + 1) [] = l[k] := by simp [List.getD_eq_getElem?_getD, hl]
      rw [e1, e2]
      exact trim_sp hw.1 this.1 this.2
theorem pieces_size (F : List (List UInt8)) (hF : ∀ f ∈ F, f.length ≤ 6) (k : Nat) : ((piecesF F).getD k []).length ≤ 7 := by
  cases F with
  | nil => simp [piecesF]
  | cons f l =>
    cases k with
    | zero => have := hF f (by simp); simp only [piecesF, List.getD_cons_zero]; omega
    | succ k =>
      cases h : l[k]? with
      | none => simp [piecesF, List.getD_eq_getElem?_getD, h]
      | some x => have := hF x (by simp [List.mem_of_getElem? h]); simp [piecesF, List.getD_eq_getElem?_getD, h]; omega
theorem body_size {i : Ins} (hi : i.good) : (bodyF i).length ≤ 30 := by
  have := line_len hi
  rw [line_body] at this
  simp at this
  omega
theorem body_blank {i : Ins} (hi : i.good) : bodyF i ≠ [] ∧ blank (bodyF i) ∧ blank (bodyF i).reverse := by
  have hF := fields_W i
  have hl := (fields_len hi).1
  obtain ⟨op, a, b, e1, e2, e3, hok⟩ := hi
  have hn := name_W i.op.toNat (by have := hok.op0; omega) (by have := hok.op1; omega)
  unfold bodyF
  split
  · rw [List.append_nil]
    exact ⟨hn.1, (W_blank hn).1, (W_blank hn).2⟩
  · rename_i hne
    obtain ⟨j1, j2, j3⟩ := join_blank _ hne hl hF
    refine ⟨by simp, head_app hn, fun c hc => j3 c ?_⟩
    rw [List.reverse_append, List.reverse_cons] at hc
    cases hr : (Lib.join (fieldsF i) [44, 32]).reverse with
    | nil => simp at hr; exact absurd hr j1
    | cons x y => rw [hr] at hc; simpa using hc
theorem txt_ascii {c : UInt8} (h : txt c = true) : c.toNat < 128 := by
  unfold txt at h
  simp only [Bool.and_eq_true, decide_eq_true_eq] at h
  exact h.1.1.1.1.1.1
theorem join_ascii : ∀ (F : List (List UInt8)), F.length ≤ 3 → (∀ f ∈ F, isW f) → ∀ c ∈ Lib.join F [44, 32], c.toNat < 128
  | [], _, _ => by simp [Lib.join, List.intercalate]
  | [a], _, h => by
    intro c hc
    simp only [Lib.join, List.intercalate, List.intersperse_singleton, List.flatten_cons, List.flatten_nil, List.append_nil] at hc
    exact txt_ascii ((h a (by simp)).2 c hc)
  | [a, b], _, h => by
    have e : Lib.join [a, b] [44, 32] = a ++ (44 :: 32 :: b) := by simp [Lib.join, List.intercalate]
    intro c hc
    rw [e] at hc
    simp only [List.mem_append, List.mem_cons] at hc
    rcases hc with hc | rfl | rfl | hc
    · exact txt_ascii ((h a (by simp)).2 c hc)
    · decide
    · decide
    · exact txt_ascii ((h b (by simp)).2 c hc)
  | [a, b, d], _, h => by
    have e : Lib.join [a, b, d] [44, 32] = a ++ (44 :: 32 :: (b ++ (44 :: 32 :: d))) := by simp [Lib.join, List.intercalate]
    intro c hc
    rw [e] at hc
    simp only [List.mem_append, List.mem_cons] at hc
    rcases hc with hc | rfl | rfl | hc | rfl | rfl | hc
    · exact txt_ascii ((h a (by simp)).2 c hc)
    · decide
    · decide
    · exact txt_ascii ((h b (by simp)).2 c hc)
    · decide
    · decide
    · exact txt_ascii ((h d (by simp)).2 c hc)
  | _ :: _ :: _ :: _ :: _, h, _ => by simp at h
theorem body_ascii {i : Ins} (hi : i.good) : ∀ c ∈ bodyF i, c.toNat < 128 := by
  have hF := fields_W i
  have hl := (fields_len hi).1
  obtain ⟨op, a, b, e1, e2, e3, hok⟩ := hi
  have hn := name_W i.op.toNat (by have := hok.op0; omega) (by have := hok.op1; omega)
  intro c hc
  unfold bodyF at hc
  rw [List.mem_append] at hc
  rcases hc with hc | hc
  · exact txt_ascii (hn.2 c hc)
  · split at hc
    · simp at hc
    · rw [List.mem_cons] at hc
      rcases hc with rfl | hc
      · decide
      · exact join_ascii _ hl hF c hc
end Go.Proofs.YtgjgaeloehfhiaaGreatDoor
end
