/- Digits, letters, and how many of them stand at the beginning. -/
import Derived.Test.YtgjgaeloehfhiaaGreatDoorM02
import Derived.Test.YtgjgaeloehfhiaaGreatDoorSh
section
namespace Go.Proofs.YtgjgaeloehfhiaaGreatDoor
open Go.RowKit

def isDig (c : UInt8) : Bool := decide (48 ≤ c.toNat ∧ c.toNat ≤ 57)
def isLet (c : UInt8) : Bool := decide ((97 ≤ c.toNat ∧ c.toNat ≤ 122) ∨ (65 ≤ c.toNat ∧ c.toNat ≤ 90) ∨ c.toNat = 95)

set_option maxHeartbeats 400000 in
theorem isDigit_any (c : UInt8) (w : World) : Calls Tryz.prog 161 #[.int .u8 c.toNat] w fun e w' => e = .returned (.bool (isDig c)) ∧ w' = w := by
  have hc := c.toNat_lt
  go_enter Tryz.func161, Tryz.ntmps161
  go_wp2
  all_goals (go_ret; exact ⟨ret_bool (by rw [Bool.eq_iff_iff]; simp [isDig]; omega), rfl⟩)

set_option maxHeartbeats 800000 in
theorem isLetter_any (c : UInt8) (w : World) : Calls Tryz.prog 162 #[.int .u8 c.toNat] w fun e w' => e = .returned (.bool (isLet c)) ∧ w' = w := by
  have hc := c.toNat_lt
  go_enter Tryz.func162, Tryz.ntmps162
  go_wp2
  all_goals (go_ret; exact ⟨ret_bool (by rw [Bool.eq_iff_iff]; simp [isLet]; omega), rfl⟩)

def isRun (c : UInt8) : Bool := isDig c || isLet c
def runLen (l : List UInt8) : Nat := (l.takeWhile isRun).length
theorem runLen_le (l : List UInt8) : runLen l ≤ l.length := by
  unfold runLen; exact List.Sublist.length_le (List.takeWhile_sublist _)
theorem runLen_drop (l : List UInt8) (k : Nat) (h : k < l.length) : runLen (l.drop k) = if isRun l[k] then runLen (l.drop (k + 1)) + 1 else 0 := by
  unfold runLen
  rw [List.drop_eq_getElem_cons h, List.takeWhile_cons]
  split <;> simp

set_option maxHeartbeats 800000 in
theorem run_any (s : ByteArray) (hs : s.size < 1000000) (w : World) : Calls Tryz.prog 134 #[.string s] w fun e w' => e = .returned (.int .i64 (runLen s.data.toList)) ∧ w' = w := by
  have hd := isDigit_any
  have hl := isLetter_any
  go_enter Tryz.func134, Tryz.ntmps134
  go_wp2
  go_loopw [3] (fun v wr => ∃ k : Nat, k ≤ s.size ∧ v = .int .i64 k ∧ wr = w ∧ runLen (s.data.toList.drop k) + k = runLen s.data.toList) (fun v _ => s.size - (intOf v).toNat)
  case atStart => exact ⟨0, by omega, rfl, rfl, by simp⟩
  case round =>
    obtain ⟨k, hk, rfl, rfl, ht⟩ := hrel
    by_cases hlt : k < s.size
    · have hr := runLen_drop s.data.toList k (by simpa using hlt)
      have he : s.data.toList[k]'(by simpa using hlt) = s[k] := rfl
      rw [he] at hr
      go_wp2_with fail
      refine (hd _ _).mono ?_
      rintro e w1 ⟨rfl, rfl⟩
      cases h1 : isDig s[k]
      · go_wp2_with fail
        refine (hl _ _).mono ?_
        rintro e w1 ⟨rfl, rfl⟩
        cases h2 : isLet s[k]
        · simp only [isRun, h1, h2, Bool.or_self, Bool.false_eq_true, if_false] at hr
          have Ht := Lib.hid ht
          have Hr := Lib.hid hr
          clear ht hr
          go_wp2
          go_ret
          exact ⟨ret_int (by have h1 := Ht.out; have h2 := Hr.out; omega), rfl⟩
        · simp only [isRun, h1, h2, Bool.false_or, if_true] at hr
          have Ht := Lib.hid ht
          have Hr := Lib.hid hr
          clear ht hr
          go_wp2
          exact ⟨⟨k + 1, by omega, by go_num, by first | rfl | trivial, by have h1 := Ht.out; have h2 := Hr.out; omega⟩, by simp [intOf]; omega⟩
      · simp only [isRun, h1, Bool.true_or, if_true] at hr
        have Ht := Lib.hid ht
        have Hr := Lib.hid hr
        clear ht hr
        go_wp2
        exact ⟨⟨k + 1, by omega, by go_num, by first | rfl | trivial, by have h1 := Ht.out; have h2 := Hr.out; omega⟩, by simp [intOf]; omega⟩
    · have hk' : k = s.size := by omega
      subst hk'
      have h0 : runLen (s.data.toList.drop s.size) = 0 := by rw [List.drop_eq_nil_of_le (by simp)]; rfl
      rw [h0] at ht
      have Ht := Lib.hid ht
      clear ht
      go_wp2
      go_ret
      exact ⟨ret_int (by have h1 := Ht.out; omega), rfl⟩
end Go.Proofs.YtgjgaeloehfhiaaGreatDoor
end
section
/- strconv.ParseUint at base 16, at short texts of digits and small letters. -/
namespace Go.Proofs.YtgjgaeloehfhiaaGreatDoor
open Go.RowKit

/-- What a digit of a base of 16 is worth; 16 and more: none. -/
def hexD (c : UInt8) : Nat := if c.toNat ≤ 57 then c.toNat - 48 else c.toNat - 87
def hexF (acc : Nat) : List UInt8 → Option Nat
  | [] => some acc
  | c :: l => if 16 ≤ hexD c then none else hexF (acc * 16 + hexD c) l
/-- A digit or a small letter. -/
def isLow (c : UInt8) : Prop := (48 ≤ c.toNat ∧ c.toNat ≤ 57) ∨ (97 ≤ c.toNat ∧ c.toNat ≤ 122)

theorem or_low : ∀ n : Nat, n < 123 → 97 ≤ n → bits .or .u8 (n : Int) 32 = (n : Int) := by decide

def hexV : Option Nat → Value
  | some n => .tuple #[.int .u64 n, .nilIface]
  | none => .tuple #[.int .u64 0, .iface 250 (.int .i64 2)]

set_option maxHeartbeats 32000000 in
set_option maxRecDepth 100000 in
theorem parse16 (t : ByteArray) (hne : t.size ≠ 0) (hmax : t.size ≤ 8) (hlow : ∀ c ∈ t.data.toList, isLow c) (w : World) :
    Calls Tryz.prog 171 #[.string t, .int .i64 16, .int .i64 32] w fun e w' => e = .returned (hexV (hexF 0 t.data.toList)) ∧ w' = Lib.bytesWorld w 5 t := by
  have hemp : t.toList.isEmpty = false := by
    rw [← decide_eq_emptyBytes]
    exact decide_eq_false (fun h => hne (by rw [h]; rfl))
  have hcv := Lib.run_convert_string_bytes (P := Tryz.prog) w 9 59 5 t (u := .string) (by kernel_rfl) (by kernel_rfl) (by kernel_rfl)
  have hB : ∀ j, j < t.size → (Lib.bytesWorld w 5 t).cell? ⟨w.heap.size, j, none⟩ = some (.int .u8 (t.data.toList.getD j 0).toNat) := fun j hj => Lib.bytesWorld_cell w 5 t j hj
  obtain ⟨W1, hW1⟩ : ∃ W1, W1 = Lib.bytesWorld w 5 t := ⟨_, rfl⟩
  rw [← hW1] at hcv hB ⊢
  clear hW1
  obtain ⟨bs, hL⟩ : ∃ bs, bs = t.data.toList := ⟨_, rfl⟩
  have hLn : bs.length = t.size := by rw [hL, Lib.size_eq]
  rw [← hL] at hB hlow ⊢
  clear hL
  have hlw := Tryz.internal_strconv_lower
  have hol := or_low
  go_enter Tryz.func171, Tryz.ntmps171
  go_wp2
  go_loop [12, 13, 101] (fun vu vn vi => ∃ (k acc : Nat) (a : Int), vu = .bool false ∧ vn = .int .u64 a ∧ vi = .int .i64 k ∧ k ≤ t.size ∧ Hid (a = (acc : Int) ∧ acc < 16 ^ k ∧ hexF 0 bs = hexF acc (bs.drop k)))
    (fun _ _ vi => t.size - (intOf vi).toNat)
  case atStart => exact ⟨0, 0, 0, rfl, rfl, rfl, by omega, rfl, by omega, rfl⟩
  case round =>
    obtain ⟨k, acc, a, rfl, rfl, rfl, hk, hh⟩ := hrel
    obtain ⟨ha, hacc, hdec⟩ := hh.out
    clear hh
    by_cases hkn : k < t.size
    · have hc := hB k hkn
      have hdrop : bs.drop k = bs[k]'(by omega) :: bs.drop (k + 1) := List.drop_eq_getElem_cons (by omega)
      have hget : bs.getD k 0 = bs[k]'(by omega) := by simp [List.getD, List.getElem?_eq_getElem (show k < bs.length by omega)]
      have hlo := hlow (bs[k]'(by omega)) (List.getElem_mem _)
      have hp7 : (16 : Nat) ^ k ≤ 16 ^ 7 := Nat.pow_le_pow_right (by omega) (by omega)
      have hpk : (16 : Nat) ^ (k + 1) = 16 * 16 ^ k := by rw [Nat.pow_succ]; omega
      have a0 : 0 ≤ a := by omega
      have a1 : a < 268435456 := by omega
      rw [hdrop] at hdec
      rw [hget] at hc
      generalize bs[k]'(by omega) = c at hc hdec hlo
      have hc256 : c.toNat < 256 := c.toNat_lt
      clear hB hdrop hget hlow hp7
      by_cases hdig : c.toNat ≤ 57
      · have hd0 : 48 ≤ c.toNat := by rcases hlo with h | h <;> omega
        have hD : hexD c = c.toNat - 48 := by simp [hexD, hdig]
        have hF : hexF acc (c :: bs.drop (k + 1)) = hexF (acc * 16 + (c.toNat - 48)) (bs.drop (k + 1)) := by
          simp only [hexF, hD]; rw [if_neg (by omega)]
        have HN : Hid (a * 16 + ((c.toNat : Int) - 48) = ((acc * 16 + (c.toNat - 48) : Nat) : Int) ∧ acc * 16 + (c.toNat - 48) < 16 ^ (k + 1) ∧ hexF 0 bs = hexF (acc * 16 + (c.toNat - 48)) (bs.drop (k + 1))) := Lib.hid ⟨by omega, by omega, hdec.trans hF⟩
        clear hacc hF hdec ha hlo hD hpk
        go_wp2
        refine ⟨⟨k + 1, acc * 16 + (c.toNat - 48), a * 16 + ((c.toNat : Int) - 48), rfl, (by first | rfl | (congr 1; omega)), (by first | rfl | (congr 1; omega)), by omega, HN⟩, by simp [intOf]; omega⟩
      · have h97 : 97 ≤ c.toNat ∧ c.toNat ≤ 122 := by rcases hlo with h | h <;> omega
        have hD : hexD c = c.toNat - 87 := by simp [hexD, hdig]
        have hor := or_low c.toNat (by omega) h97.1
        obtain ⟨h970, h971⟩ := h97
        have hlc : ∀ w, Calls Tryz.prog 180 #[.int .u8 c.toNat] w fun e w' => e = .returned (.int .u8 c.toNat) ∧ w' = w := fun w => by
          have h := hlw c.toNat w
          rw [hor] at h
          exact h
        clear hlw hol hor
        have hn48 : ¬ ((c.toNat : Int) ≤ 57) := by omega
        by_cases hbig : 103 ≤ c.toNat
        · have hF : hexF acc (c :: bs.drop (k + 1)) = none := by
            simp only [hexF, hD]; rw [if_pos (by omega)]
          rw [hF] at hdec
          clear hacc hF ha hlo hD hpk
          go_wp2_with (refine (hlc _).mono ?_; rintro e w' ⟨rfl, rfl⟩)
          go_ret2
          exact ⟨by rw [hdec]; rfl, rfl⟩
        · have hF : hexF acc (c :: bs.drop (k + 1)) = hexF (acc * 16 + (c.toNat - 87)) (bs.drop (k + 1)) := by
            simp only [hexF, hD]; rw [if_neg (by omega)]
          have HN : Hid (a * 16 + ((c.toNat : Int) - 87) = ((acc * 16 + (c.toNat - 87) : Nat) : Int) ∧ acc * 16 + (c.toNat - 87) < 16 ^ (k + 1) ∧ hexF 0 bs = hexF (acc * 16 + (c.toNat - 87)) (bs.drop (k + 1))) := Lib.hid ⟨by omega, by omega, hdec.trans hF⟩
          clear hacc hF hdec ha hlo hD hpk
          go_wp2_with (refine (hlc _).mono ?_; rintro e w' ⟨rfl, rfl⟩)
          refine ⟨⟨k + 1, acc * 16 + (c.toNat - 87), a * 16 + ((c.toNat : Int) - 87), rfl, (by first | rfl | (congr 1; omega)), (by first | rfl | (congr 1; omega)), by omega, HN⟩, by simp [intOf]; omega⟩
    · have hkk : k = t.size := by omega
      subst hkk
      have hF : hexF acc (bs.drop t.size) = some acc := by rw [List.drop_eq_nil_of_le (by omega)]; rfl
      rw [hF] at hdec
      subst ha
      clear hacc hF
      go_wp2
      go_ret2
      exact ⟨rfl, rfl⟩
end Go.Proofs.YtgjgaeloehfhiaaGreatDoor
end
section
/- strconv.ParseUint, and what a number's text is worth. -/
namespace Go.Proofs.YtgjgaeloehfhiaaGreatDoor
open Go.RowKit

theorem hexF_lt : ∀ (l : List UInt8) (k acc n : Nat), acc < 16 ^ k → hexF acc l = some n → n < 16 ^ (k + l.length)
  | [], k, acc, n, ha, h => by simp only [hexF, Option.some.injEq] at h; subst h; simpa using ha
  | c :: l, k, acc, n, ha, h => by
    simp only [hexF] at h
    split at h
    · simp at h
    · have hp : (16 : Nat) ^ (k + 1) = 16 * 16 ^ k := by rw [Nat.pow_succ]; omega
      have := hexF_lt l (k + 1) (acc * 16 + hexD c) n (by omega) h
      rw [List.length_cons, show k + (l.length + 1) = k + 1 + l.length by omega]
      exact this

/-- The first of a row of digits, and whether it was one. -/
def uintR (hex : Bool) (l : List UInt8) : Option Nat :=
  if hex then hexF 0 l else match Lib.parseUintB 32 l with
    | .ok n => some n
    | _ => none

theorem uintR_lt {hex : Bool} {l : List UInt8} {n : Nat} (h : uintR hex l = some n) (hl : hex = true → l.length ≤ 8) : n < 4294967296 := by
  cases hex with
  | true =>
    simp only [uintR, if_true] at h
    have h1 := hexF_lt l 0 0 n (by omega) h
    have h2 : (16 : Nat) ^ (0 + l.length) ≤ 16 ^ 8 := Nat.pow_le_pow_right (by omega) (by have := hl rfl; omega)
    omega
  | false =>
    simp only [uintR, Bool.false_eq_true, if_false] at h
    split at h
    · rename_i m hm
      have := Lib.parseUintB_le hm
      simp only [Option.some.injEq] at h
      omega
    · simp at h

/-- What ParseUint gives. -/
def UintPost (hex : Bool) (l : List UInt8) (w : World) (e : Ending) (w' : World) : Prop :=
  Ext w w' ∧ ((∃ n, uintR hex l = some n ∧ e = .returned (.tuple #[.int .u64 n, .nilIface])) ∨
    ∃ (n : Int) (te : TypeId) (pe : Value), uintR hex l = none ∧ e = .returned (.tuple #[.int .u64 n, .iface te pe]))

theorem Ext.bytes (w : World) (s : ByteArray) : Ext w (Lib.bytesWorld w 5 s) := .of_below (Lib.bytesWorld_below w 5 s)

theorem parseU10 {N : Nat} (s : ByteArray) (hs : s.size < 1000000) (w : World) (hG : Gl N w) :
    Calls Tryz.prog 178 #[.string s, .int .i64 10, .int .i64 32] w (UintPost false s.data.toList w) := by
  rcases hr : Lib.parseUintB 32 s.data.toList with u | _ | _
  · refine (Tryz.strconv_ParseUint_10_at32_ok s (by omega) u hr w).mono ?_
    rintro e w' ⟨rfl, hw⟩
    refine ⟨?_, .inl ⟨u, by simp [uintR, hr], rfl⟩⟩
    rcases hw with rfl | rfl
    · exact Ext.refl _
    · exact Ext.bytes _ _
  · obtain ⟨te, pe, hc⟩ := hG.esyn
    refine (Any.strconv_ParseUint_10_at32_syntax Tryz.laysPu14 s (by omega) hr _ w (hc.2 0 _ rfl) (.inr ⟨te, pe, rfl⟩)).mono ?_
    rintro e w' ⟨N, rfl, -, -, hb⟩
    exact ⟨.of_below hb, .inr ⟨0, _, _, by simp [uintR, hr], rfl⟩⟩
  · obtain ⟨te, pe, hc⟩ := hG.erng
    refine (Tryz.strconv_ParseUint_10_at32_range s (by omega) hr _ w (hc.2 0 _ rfl) (.inr ⟨te, pe, rfl⟩)).mono ?_
    rintro e w' ⟨N, rfl, -, -, hb⟩
    exact ⟨.of_below hb, .inr ⟨4294967295, _, _, by simp [uintR, hr], rfl⟩⟩

set_option maxRecDepth 100000 in
set_option maxHeartbeats 800000 in
theorem parseU16 {N : Nat} (s : ByteArray) (hne : s.size ≠ 0) (hs : s.size ≤ 8) (hlow : ∀ c ∈ s.data.toList, isLow c) (w : World) (hG : Gl N w) :
    Calls Tryz.prog 178 #[.string s, .int .i64 16, .int .i64 32] w (UintPost true s.data.toList w) := by
  have h16 := parse16 s hne hs hlow w
  have hte := Tryz.strconv_toError_syntax ⟨#[80, 97, 114, 115, 101, 85, 105, 110, 116]⟩ s 16 32
  have hb := Ext.bytes w s
  obtain ⟨te, pe, hc⟩ := (hG.ext hb).esyn
  have hc := hc.2 0 _ rfl
  generalize Lib.bytesWorld w 5 s = w1 at *
  have hlim : s.size ≤ 281474976710656 := by omega
  clear hlow
  cases hF : hexF 0 s.data.toList with
  | some n =>
    rw [hF] at h16
    have hU : uintR true s.data.toList = some n := by simpa [uintR] using hF
    have Hb := Lib.hid hb
    clear hF hb hte hc
    go_enter Tryz.func178, Tryz.ntmps178
    go_wp2_with fail
    refine h16.mono ?_
    rintro e w1 ⟨rfl, rfl⟩
    unfold hexV
    go_wp2_with fail
    go_ret2
    exact ⟨Hb.out, .inl ⟨n, hU, rfl⟩⟩
  | none =>
    rw [hF] at h16
    have hU : uintR true s.data.toList = none := by simpa [uintR] using hF
    have Hb := Lib.hid hb
    clear hF hb
    have hte := hte _ w1 hlim hc (.inr ⟨te, pe, rfl⟩)
    go_enter Tryz.func178, Tryz.ntmps178
    go_wp2_with fail
    refine h16.mono ?_
    rintro e w1 ⟨rfl, rfl⟩
    unfold hexV
    go_wp2_with fail
    refine hte.mono ?_
    rintro e w' ⟨N, rfl, -, -, hbb⟩
    go_wp2_with fail
    go_ret2
    exact ⟨Hb.out.trans (.of_below hbb), .inr ⟨0, _, _, hU, rfl⟩⟩
/-- A number's value, if it is one. -/
def valuedF (l : List UInt8) : Option Nat :=
  let hex := Lib.hasPrefix l [48, 120]
  let d := if hex then l.drop 2 else l
  if d.length < 1 ∨ (if hex then 8 else 10) < d.length ∨ Lib.toLowerA d ≠ d ∨ 0 ≤ Lib.indexByte d 95 then none else uintR hex d

theorem indexByte_mem : ∀ (l : List UInt8) (c : UInt8), c ∈ l → 0 ≤ Lib.indexByte l c
  | b :: l, c, h => by
    simp only [Lib.indexByte]
    by_cases hb : (b == c) = true
    · rw [if_pos hb]; omega
    · rw [if_neg hb]
      have hc : c ∈ l := by
        rcases List.mem_cons.1 h with rfl | h
        · simp at hb
        · exact h
      have := indexByte_mem l c hc
      split
      · rename_i h1; simp at h1; omega
      · omega

theorem low_of {l : List UInt8} (hr : ∀ c ∈ l, isRun c = true) (hl : Lib.toLowerA l = l) (hu : ¬ 0 ≤ Lib.indexByte l 95) : ∀ c ∈ l, isLow c := by
  intro c hc
  have h1 := hr c hc
  have h2 : c ≠ 95 := fun e => hu (indexByte_mem l 95 (e ▸ hc))
  have h3 : c.toNat ≠ 95 := fun e => h2 (UInt8.toNat_inj.1 (by simpa using e))
  have h4 : Lib.lowerB c = c := by
    unfold Lib.toLowerA at hl
    obtain ⟨i, hi, rfl⟩ := List.getElem_of_mem hc
    have := congrArg (fun m => m[i]?) hl
    simpa [hi] using this
  have h5 : ¬ (65 ≤ c.toNat ∧ c.toNat ≤ 90) := fun ⟨h6, h7⟩ => by
    have h8 : Lib.isUpperB c = true := by simp [Lib.isUpperB, UInt8.le_iff_toNat_le]; omega
    rw [Lib.lowerB, if_pos h8] at h4
    have := congrArg UInt8.toNat h4
    simp at this
    omega
  simp only [isRun, isDig, isLet, Bool.or_eq_true, decide_eq_true_eq] at h1
  unfold isLow
  omega
end Go.Proofs.YtgjgaeloehfhiaaGreatDoor
end
section
/- What a number's text is worth, by the program. PRINTED by gen/genL4.py -/
namespace Go.Proofs.YtgjgaeloehfhiaaGreatDoor
open Go.RowKit

theorem run_ascii {c : UInt8} (h : isRun c = true) : c.toNat < 128 := by
  simp only [isRun, isDig, isLet, Bool.or_eq_true, decide_eq_true_eq] at h
  omega

/-- strings.ToLower of digits and letters: it is the text, or another. -/
theorem lower_any (s : ByteArray) (hs : s.size < 1000000) (hr : ∀ c ∈ s.data.toList, isRun c = true) (w : World) :
    Calls Tryz.prog 176 #[.string s] w fun e w' => (∃ u : ByteArray, e = .returned (.string u) ∧ (u.toList == s.toList) = decide (Lib.toLowerA s.data.toList = s.data.toList)) ∧ Ext w w' := by
  refine (Tryz.strings_ToLower_ascii s w (by omega) fun j b hj => run_ascii (hr b (List.mem_of_getElem? hj))).mono ?_
  rintro e w' ⟨rfl, hb⟩
  refine ⟨⟨_, rfl, ?_⟩, .of_below hb⟩
  rw [ByteArray.toList_eq, ByteArray.toList_eq]
  exact Bool.eq_iff_iff.2 (by simp)

/-- What 'valued' gives. -/
def ValPost (l : List UInt8) (w : World) (e : Ending) (w' : World) : Prop :=
  Ext w w' ∧ ∃ n : Int, e = .returned (.tuple #[.int .u32 n, .bool (valuedF l).isSome]) ∧ ∀ m, valuedF l = some m → n = (m : Int)

set_option maxRecDepth 100000 in
set_option maxHeartbeats 1600000 in
theorem valued_hex {N : Nat} (s : ByteArray) (hs : s.size < 1000000) (hr : ∀ c ∈ s.data.toList, isRun c = true) (hx : Lib.hasPrefix s.data.toList [48, 120] = true) (w : World) (hG : Gl N w) :
    Calls Tryz.prog 163 #[.string s] w (ValPost s.data.toList w) := by
  have hpre := Tryz.strings_HasPrefix s ⟨#[48, 120]⟩ w
  rw [show ((⟨#[48, 120]⟩ : ByteArray).data.toList) = [48, 120] from rfl, hx] at hpre
  have hD : (s.extract 2 s.size).data.toList = s.data.toList.drop 2 := Lib.extract_to_end s 2
  have hDs : (s.extract 2 s.size).size < 1000000 := by rw [ByteArray.size_extract]; omega
  have hDr : ∀ c ∈ (s.extract 2 s.size).data.toList, isRun c = true := by
    rw [hD]; intro c hc; exact hr c (List.mem_of_mem_drop hc)
  have hs2 : 2 ≤ s.size := by
    have h := List.isPrefixOf_iff_prefix.1 hx
    have := h.length_le
    have := Lib.size_eq s
    simp at *
    omega
  have hval : valuedF s.data.toList = if (s.extract 2 s.size).data.toList.length < 1 ∨ 8 < (s.extract 2 s.size).data.toList.length ∨ Lib.toLowerA (s.extract 2 s.size).data.toList ≠ (s.extract 2 s.size).data.toList ∨ 0 ≤ Lib.indexByte (s.extract 2 s.size).data.toList 95 then none else uintR true (s.extract 2 s.size).data.toList := by
    rw [hD]; simp only [valuedF, hx, if_true]
  have hpu : 1 ≤ (s.extract 2 s.size).data.toList.length → (s.extract 2 s.size).data.toList.length ≤ 8 → Lib.toLowerA (s.extract 2 s.size).data.toList = (s.extract 2 s.size).data.toList → ¬ 0 ≤ Lib.indexByte (s.extract 2 s.size).data.toList 95 →
      ∀ w', Ext w w' → Calls Tryz.prog 178 #[.string (s.extract 2 s.size), .int .i64 16, .int .i64 32] w' (UintPost true (s.extract 2 s.size).data.toList w') := fun h1 h2 h3 h4 w' hb => by
    have hz := Lib.size_eq (s.extract 2 s.size)
    exact parseU16 _ (by omega) (by omega) (low_of hDr h3 h4) w' (hG.ext hb)
  have hlw := fun w' => lower_any (s.extract 2 s.size) hDs hDr w'
  have hct := fun w' => Tryz.strings_Contains_one (s.extract 2 s.size) 95 w'
  have hsz := Lib.hid (Lib.size_eq (s.extract 2 s.size))
  unfold ValPost
  generalize valuedF s.data.toList = R at *
  have Hval := Lib.hid hval
  clear hval
  clear hG hx hr hDr hD hDs
  generalize hDD : s.extract 2 s.size = D at *
  go_enter Tryz.func163, Tryz.ntmps163
  go_wp2_with fail
  refine hpre.mono ?_
  rintro e w1 ⟨rfl, rfl⟩
  by_cases h1 : D.data.toList.length < 1
  · have hR : Hid (R = none) := Lib.hid (Hval.out.trans (if_pos (.inl h1)))
    have hz : D.size < 1 := by have := hsz.out; omega
    go_wp2_with fail
    go_ret2
    exact ⟨Ext.refl _, 0, by rw [hR.out]; rfl, fun m hm => by rw [hR.out] at hm; simp at hm⟩
  by_cases h2 : 8 < D.data.toList.length
  · have hR : Hid (R = none) := Lib.hid (Hval.out.trans (if_pos (.inr (.inl h2))))
    have hz : 8 < D.size := by have := hsz.out; omega
    go_wp2_with fail
    go_ret2
    exact ⟨Ext.refl _, 0, by rw [hR.out]; rfl, fun m hm => by rw [hR.out] at hm; simp at hm⟩
  have hz1 : 1 ≤ D.size := by have := hsz.out; omega
  have hz2 : D.size ≤ 8 := by have := hsz.out; omega
  go_wp2_with fail
  refine (hlw _).mono ?_
  rintro e w2 ⟨⟨u, rfl, hu⟩, hb2⟩
  by_cases h3 : Lib.toLowerA D.data.toList = D.data.toList
  · rw [decide_eq_true h3] at hu
    go_wp2_with fail
    refine (hct _).mono ?_
    rintro e w3 ⟨rfl, rfl⟩
    by_cases h4 : 0 ≤ Lib.indexByte D.data.toList 95
    · have hR : Hid (R = none) := Lib.hid (Hval.out.trans (if_pos (.inr (.inr (.inr h4)))))
      rw [decide_eq_true h4]
      go_wp2_with fail
      go_ret2
      exact ⟨hb2, 0, by rw [hR.out]; rfl, fun m hm => by rw [hR.out] at hm; simp at hm⟩
    · have hR0 := Hval.out.trans (if_neg (by simp only [not_or, Decidable.not_not]; exact ⟨h1, h2, h3, h4⟩))
      rw [decide_eq_false h4]
      have hp := hpu (by have := hsz.out; omega) (by have := hsz.out; omega) h3 (by omega) _ hb2
      go_wp2_with fail
      refine hp.mono ?_
      rintro e w4 ⟨hb3, ⟨n, hn, rfl⟩ | ⟨n, te, pe, hn, rfl⟩⟩
      · have hlt := uintR_lt hn (fun h => by first | (cases h; done) | (have := hsz.out; omega))
        have hwr : IntKind.u32.wrap (n : Int) = (n : Int) := by rw [IntKind.wrap_u32]; omega
        rw [hn] at hR0
        have hR := Lib.hid hR0
        clear hR0
        go_wp2_with fail
        go_region
        all_goals go_wp2_with fail
        all_goals go_ret2
        all_goals exact ⟨(hb2.trans hb3).drew, n, by rw [hR.out]; rfl, fun m hm => by rw [hR.out] at hm; simp at hm; omega⟩
      · rw [hn] at hR0
        have hR := Lib.hid hR0
        clear hR0
        go_wp2_with fail
        go_region
        all_goals go_wp2_with fail
        all_goals go_ret2
        all_goals exact ⟨(hb2.trans hb3).drew, _, by rw [hR.out]; rfl, fun m hm => by rw [hR.out] at hm; simp at hm⟩
  · rw [decide_eq_false h3] at hu
    have hR : Hid (R = none) := Lib.hid (Hval.out.trans (if_pos (.inr (.inr (.inl h3)))))
    go_wp2_with fail
    go_ret2
    exact ⟨hb2, 0, by rw [hR.out]; rfl, fun m hm => by rw [hR.out] at hm; simp at hm⟩

set_option maxRecDepth 100000 in
set_option maxHeartbeats 1600000 in
theorem valued_dec {N : Nat} (s : ByteArray) (hs : s.size < 1000000) (hr : ∀ c ∈ s.data.toList, isRun c = true) (hx : Lib.hasPrefix s.data.toList [48, 120] = false) (w : World) (hG : Gl N w) :
    Calls Tryz.prog 163 #[.string s] w (ValPost s.data.toList w) := by
  have hpre := Tryz.strings_HasPrefix s ⟨#[48, 120]⟩ w
  rw [show ((⟨#[48, 120]⟩ : ByteArray).data.toList) = [48, 120] from rfl, hx] at hpre
  have hD : s.data.toList = s.data.toList := rfl
  have hDs : s.size < 1000000 := by omega
  have hDr : ∀ c ∈ s.data.toList, isRun c = true := by
    rw [hD]; intro c hc; exact hr c hc
  have hval : valuedF s.data.toList = if s.data.toList.length < 1 ∨ 10 < s.data.toList.length ∨ Lib.toLowerA s.data.toList ≠ s.data.toList ∨ 0 ≤ Lib.indexByte s.data.toList 95 then none else uintR false s.data.toList := by
    rw [hD]; simp only [valuedF, hx, Bool.false_eq_true, if_false]
  have hpu : 1 ≤ s.data.toList.length → s.data.toList.length ≤ 10 → Lib.toLowerA s.data.toList = s.data.toList → ¬ 0 ≤ Lib.indexByte s.data.toList 95 →
      ∀ w', Ext w w' → Calls Tryz.prog 178 #[.string s, .int .i64 10, .int .i64 32] w' (UintPost false s.data.toList w') := fun h1 h2 h3 h4 w' hb => by
    have hz := Lib.size_eq s
    exact parseU10 _ (by omega) w' (hG.ext hb)
  have hlw := fun w' => lower_any s hDs hDr w'
  have hct := fun w' => Tryz.strings_Contains_one s 95 w'
  have hsz := Lib.hid (Lib.size_eq s)
  unfold ValPost
  generalize valuedF s.data.toList = R at *
  have Hval := Lib.hid hval
  clear hval
  clear hG hx hr hDr hD hDs
  obtain ⟨D, hDD⟩ : ∃ D, D = s := ⟨s, rfl⟩
  subst hDD
  go_enter Tryz.func163, Tryz.ntmps163
  go_wp2_with fail
  refine hpre.mono ?_
  rintro e w1 ⟨rfl, rfl⟩
  by_cases h1 : D.data.toList.length < 1
  · have hR : Hid (R = none) := Lib.hid (Hval.out.trans (if_pos (.inl h1)))
    have hz : D.size < 1 := by have := hsz.out; omega
    go_wp2_with fail
    go_ret2
    exact ⟨Ext.refl _, 0, by rw [hR.out]; rfl, fun m hm => by rw [hR.out] at hm; simp at hm⟩
  by_cases h2 : 10 < D.data.toList.length
  · have hR : Hid (R = none) := Lib.hid (Hval.out.trans (if_pos (.inr (.inl h2))))
    have hz : 10 < D.size := by have := hsz.out; omega
    go_wp2_with fail
    go_ret2
    exact ⟨Ext.refl _, 0, by rw [hR.out]; rfl, fun m hm => by rw [hR.out] at hm; simp at hm⟩
  have hz1 : 1 ≤ D.size := by have := hsz.out; omega
  have hz2 : D.size ≤ 10 := by have := hsz.out; omega
  go_wp2_with fail
  refine (hlw _).mono ?_
  rintro e w2 ⟨⟨u, rfl, hu⟩, hb2⟩
  by_cases h3 : Lib.toLowerA D.data.toList = D.data.toList
  · rw [decide_eq_true h3] at hu
    go_wp2_with fail
    refine (hct _).mono ?_
    rintro e w3 ⟨rfl, rfl⟩
    by_cases h4 : 0 ≤ Lib.indexByte D.data.toList 95
    · have hR : Hid (R = none) := Lib.hid (Hval.out.trans (if_pos (.inr (.inr (.inr h4)))))
      rw [decide_eq_true h4]
      go_wp2_with fail
      go_ret2
      exact ⟨hb2, 0, by rw [hR.out]; rfl, fun m hm => by rw [hR.out] at hm; simp at hm⟩
    · have hR0 := Hval.out.trans (if_neg (by simp only [not_or, Decidable.not_not]; exact ⟨h1, h2, h3, h4⟩))
      rw [decide_eq_false h4]
      have hp := hpu (by have := hsz.out; omega) (by have := hsz.out; omega) h3 (by omega) _ hb2
      go_wp2_with fail
      refine hp.mono ?_
      rintro e w4 ⟨hb3, ⟨n, hn, rfl⟩ | ⟨n, te, pe, hn, rfl⟩⟩
      · have hlt := uintR_lt hn (fun h => by first | (cases h; done) | (have := hsz.out; omega))
        have hwr : IntKind.u32.wrap (n : Int) = (n : Int) := by rw [IntKind.wrap_u32]; omega
        rw [hn] at hR0
        have hR := Lib.hid hR0
        clear hR0
        go_wp2_with fail
        go_region
        all_goals go_wp2_with fail
        all_goals go_ret2
        all_goals exact ⟨(hb2.trans hb3).drew, n, by rw [hR.out]; rfl, fun m hm => by rw [hR.out] at hm; simp at hm; omega⟩
      · rw [hn] at hR0
        have hR := Lib.hid hR0
        clear hR0
        go_wp2_with fail
        go_region
        all_goals go_wp2_with fail
        all_goals go_ret2
        all_goals exact ⟨(hb2.trans hb3).drew, _, by rw [hR.out]; rfl, fun m hm => by rw [hR.out] at hm; simp at hm⟩
  · rw [decide_eq_false h3] at hu
    have hR : Hid (R = none) := Lib.hid (Hval.out.trans (if_pos (.inr (.inr (.inl h3)))))
    go_wp2_with fail
    go_ret2
    exact ⟨hb2, 0, by rw [hR.out]; rfl, fun m hm => by rw [hR.out] at hm; simp at hm⟩

theorem valued_any {N : Nat} (s : ByteArray) (hs : s.size < 1000000) (hr : ∀ c ∈ s.data.toList, isRun c = true) (w : World) (hG : Gl N w) :
    Calls Tryz.prog 163 #[.string s] w (ValPost s.data.toList w) := by
  cases hx : Lib.hasPrefix s.data.toList [48, 120] with
  | true => exact valued_hex s hs hr hx w hG
  | false => exact valued_dec s hs hr hx w hG
end Go.Proofs.YtgjgaeloehfhiaaGreatDoor
end
