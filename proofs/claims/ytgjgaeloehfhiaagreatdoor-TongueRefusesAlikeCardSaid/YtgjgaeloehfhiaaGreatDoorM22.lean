/- The token that a run of letters and digits is. -/
import Derived.Test.YtgjgaeloehfhiaaGreatDoorM21
section
namespace Go.Proofs.YtgjgaeloehfhiaaGreatDoor
open Go.RowKit

/-- The token that a run of letters and digits is. -/
def spelledF (s : ByteArray) (ln : Nat) : Tok :=
  if s.toList ∈ wordsT then ⟨1, s, ln, 0⟩
  else if isDig (s.data.toList.headD 0) then
    match valuedF s.data.toList with
    | none => ⟨5, ⟨#[]⟩, ln, 0⟩
    | some n => ⟨3, s, ln, n⟩
  else if 16 < s.size then ⟨5, ⟨#[]⟩, ln, 0⟩ else ⟨2, s, ln, 0⟩

theorem words_index (i : Nat) (h : i < 10) (w : World) : (Instr.index 240 (.agg wordsV.toArray) (.int .i64 i)).run Tryz.prog w = .ok (strV (wordsT.getD i default)) w := by
  obtain rfl | rfl | rfl | rfl | rfl | rfl | rfl | rfl | rfl | rfl : i = 0 ∨ i = 1 ∨ i = 2 ∨ i = 3 ∨ i = 4 ∨ i = 5 ∨ i = 6 ∨ i = 7 ∨ i = 8 ∨ i = 9 := by omega
  all_goals kernel_rfl
theorem words_drop (s : List UInt8) (i : Nat) (h : i < 10) : s ∈ wordsT.drop i ↔ wordsT.getD i default = s ∨ s ∈ wordsT.drop (i + 1) := by
  have hl : i < wordsT.length := h
  rw [List.drop_eq_getElem_cons hl]
  rw [List.mem_cons]
  simp [hl]
  constructor
  · rintro (h | h)
    · exact .inl h.symm
    · exact .inr h
  · rintro (h | h)
    · exact .inl h.symm
    · exact .inr h

theorem head_get (s : ByteArray) (h : 0 < s.size) : s.data.toList.headD 0 = s[0] := by
  have h1 := Lib.data_getElem? s 0 h
  cases hl : s.data.toList with
  | nil => rw [hl] at h1; simp at h1
  | cons a l => rw [hl] at h1; simp at h1; simpa using h1

set_option maxRecDepth 100000 in
set_option maxHeartbeats 1600000 in
theorem spelled_any {N : Nat} (s : ByteArray) (ln : Nat) (h0 : 0 < s.size) (hs : s.size < 1000000) (hr : ∀ c ∈ s.data.toList, isRun c = true) (w : World) (hG : Gl N w) :
    Calls Tryz.prog 135 #[.string s, .int .i64 ln] w fun e w' => e = .returned (spelledF s ln).val ∧ Ext w w' := by
  have hix := words_index
  have hg := hG.words
  have hvl := fun w' (hb : Ext w w') => valued_any s hs hr w' (hG.ext hb)
  have hdg := isDigit_any
  have hf : spelledF s ln = if s.toList ∈ wordsT.drop 0 then ⟨1, s, ln, 0⟩ else if isDig s[0] then (match valuedF s.data.toList with
    | none => ⟨5, ⟨#[]⟩, ln, 0⟩
    | some n => ⟨3, s, ln, n⟩) else if 16 < s.size then ⟨5, ⟨#[]⟩, ln, 0⟩ else ⟨2, s, ln, 0⟩ := by
    rw [← head_get s h0]; rfl
  unfold ValPost at hvl
  generalize spelledF s ln = T at *
  have Hf := Lib.hid hf
  clear hf hr hG
  generalize hV : wordsV = V at *
  have hlen : V.length = 10 := by rw [← hV]; rfl
  go_enter Tryz.func135, Tryz.ntmps135
  go_wp2_with (refine wpList_load_cells rfl 240 _ rfl 6 rfl V (.array 10 9) (hg.keep (by repeat' (with_reducible first | exact Ext.refl _ | apply Ext.alloc))) (by kernel_rfl) rfl (by rw [hlen]; kernel_rfl) ?_)
  go_loopw [10] (fun v wr => ∃ k : Nat, k ≤ 10 ∧ v = .int .i64 k ∧ wr = w.alloc (.cells #[.int .i64 0, .string ⟨#[]⟩, .int .i64 0, .int .u32 0] 69 (0, 0)) ∧ (s.toList ∈ wordsT.drop k ↔ s.toList ∈ wordsT.drop 0)) (fun v _ => 10 - (intOf v).toNat)
  case atStart => exact ⟨0, by omega, rfl, rfl, Iff.rfl⟩
  case round =>
    obtain ⟨k, hk, rfl, rfl, ht⟩ := hrel
    have hE : Ext w (w.alloc (.cells #[.int .i64 0, .string ⟨#[]⟩, .int .i64 0, .int .u32 0] 69 (0, 0))) := (Ext.refl w).alloc _
    by_cases hlt : k < 10
    · have hd := words_drop s.toList k hlt
      have hx := hix k hlt
      clear hix
      have Ht := Lib.hid (hd.symm.trans ht)
      clear ht hd
      generalize wordsT.getD k default = x at *
      by_cases he : x = s.toList
      · have hT : T = ⟨1, s, ln, 0⟩ := Hf.out.trans (if_pos (Ht.out.1 (.inl he)))
        clear Hf Ht
        subst hT
        have hc : (s.toList == x) = true := by simpa using he.symm
        go_wp2_with fail
        exact bodyPost_ret (v := Tok.val ⟨1, s, ln, 0⟩) (by simp [results, Tryz.results135, go_sem, *]) rfl ⟨rfl, (Ext.refl w).alloc _⟩
      · have Ht2 : Hid (s.toList ∈ wordsT.drop (k + 1) ↔ s.toList ∈ wordsT.drop 0) := Lib.hid ⟨fun h => Ht.out.1 (.inr h), fun h => (Ht.out.2 h).resolve_left he⟩
        clear Ht
        have hc : (s.toList == x) = false := by simpa using fun e => he e.symm
        go_wp2_with fail
        exact ⟨⟨k + 1, by omega, by go_num, by first | rfl | trivial, Ht2.out⟩, by simp [intOf]; omega⟩
    · have hk' : k = 10 := by omega
      subst hk'
      have hno : ¬ s.toList ∈ wordsT.drop 0 := fun h => by have := ht.2 h; simp [wordsT] at this
      have Hf2 := Lib.hid (Hf.out.trans (if_neg hno))
      clear Hf ht hno hix
      go_wp2_with fail
      refine (hdg _ _).mono ?_
      rintro e w1 ⟨rfl, rfl⟩
      cases hd : isDig s[0]
      · by_cases hz : 16 < s.size
        · have hT : T = ⟨5, ⟨#[]⟩, ln, 0⟩ := by have h := Hf2.out; rw [hd, if_neg (by simp), if_pos hz] at h; exact h
          clear Hf2
          subst hT
          go_wp2_with fail
          exact bodyPost_ret (v := Tok.val ⟨5, ⟨#[]⟩, ln, 0⟩) (by simp [results, Tryz.results135, go_sem, *]) rfl ⟨rfl, (Ext.refl w).alloc _⟩
        · have hT : T = ⟨2, s, ln, 0⟩ := by have h := Hf2.out; rw [hd, if_neg (by simp), if_neg hz] at h; exact h
          clear Hf2
          subst hT
          have hz' : s.size ≤ 16 := by omega
          go_wp2_with fail
          exact bodyPost_ret (v := Tok.val ⟨2, s, ln, 0⟩) (by simp [results, Tryz.results135, go_sem, *]) rfl ⟨rfl, (Ext.refl w).alloc _⟩
      · have hf3 := Hf2.out
        rw [hd, if_pos rfl] at hf3
        have Hf3 := Lib.hid hf3
        clear hf3 Hf2
        go_wp2_with fail
        refine (hvl _ hE).mono ?_
        rintro e w2 ⟨hb, n, rfl, hn⟩
        have s2 := hb.size
        obtain ⟨hc, hf⟩ := hb.rules
        simp only [szA] at s2 hc hf
        have s5 : w.heap.size < w2.heap.size := by omega
        cases hv : valuedF s.data.toList with
        | none =>
          have hT : T = ⟨5, ⟨#[]⟩, ln, 0⟩ := by have h := Hf3.out; rw [hv] at h; exact h
          clear Hf3 hn
          subst hT
          go_wp2_with fail
          refine bodyPost_ret (v := Tok.val ⟨5, ⟨#[]⟩, ln, 0⟩) (by simp [results, Tryz.results135, go_sem, *]) rfl ⟨rfl, ?_⟩
          repeat' (with_reducible first | exact hE.trans hb | exact Nat.le_refl _ | apply Ext.drew | apply Ext.setCell)
        | some m =>
          have hT : T = ⟨3, s, ln, m⟩ := by have h := Hf3.out; rw [hv] at h; exact h
          have hnm := hn m hv
          clear Hf3 hn
          subst hT hnm
          go_wp2_with fail
          refine bodyPost_ret (v := Tok.val ⟨3, s, ln, m⟩) (by simp [results, Tryz.results135, go_sem, *]) rfl ⟨rfl, ?_⟩
          repeat' (with_reducible first | exact hE.trans hb | exact Nat.le_refl _ | apply Ext.drew | apply Ext.setCell)
end Go.Proofs.YtgjgaeloehfhiaaGreatDoor
end
section
/- The token that begins a text. -/
namespace Go.Proofs.YtgjgaeloehfhiaaGreatDoor
open Go.RowKit

/-- The signs of one byte. -/
def singlesT : List UInt8 := [124, 94, 38, 60, 62, 43, 45, 42, 47, 37, 33, 126, 61, 59, 40, 41, 91, 93, 123, 125]

/-- The token that begins a text, and how many bytes it has. -/
def nextF (s : ByteArray) (ln : Nat) : Tok × Nat :=
  if 0 < runLen s.data.toList then (spelledF (s.extract 0 (runLen s.data.toList)) ln, runLen s.data.toList)
  else match pairsT.find? (fun p => Lib.hasPrefix s.data.toList p) with
    | some p => (⟨0, ⟨p.toArray⟩, ln, 0⟩, 2)
    | none => if 0 ≤ Lib.indexByte singlesT (s.data.toList.headD 0) then (⟨0, s.extract 0 1, ln, 0⟩, 1) else (⟨5, ⟨#[]⟩, ln, 0⟩, 0)

theorem pairs_index (i : Nat) (h : i < 8) (w : World) : (Instr.index 223 (.agg pairsV.toArray) (.int .i64 i)).run Tryz.prog w = .ok (strV (pairsT.getD i default)) w := by
  obtain rfl | rfl | rfl | rfl | rfl | rfl | rfl | rfl : i = 0 ∨ i = 1 ∨ i = 2 ∨ i = 3 ∨ i = 4 ∨ i = 5 ∨ i = 6 ∨ i = 7 := by omega
  all_goals kernel_rfl
theorem pairs_drop (f : List UInt8 → Bool) (i : Nat) (h : i < 8) : (pairsT.drop i).find? f = if f (pairsT.getD i default) then some (pairsT.getD i default) else (pairsT.drop (i + 1)).find? f := by
  have hl : i < pairsT.length := h
  rw [List.drop_eq_getElem_cons hl, List.find?_cons]
  simp [hl]
  split <;> simp_all

theorem mem_while (p : UInt8 → Bool) : ∀ (l : List UInt8) (c : UInt8), c ∈ l.takeWhile p → p c = true
  | a :: l, c, h => by
    rw [List.takeWhile_cons] at h
    split at h
    · rename_i ha
      rcases List.mem_cons.1 h with rfl | h
      · exact ha
      · exact mem_while p l c h
    · simp at h

theorem run_take (s : ByteArray) : ∀ c ∈ (s.extract 0 (runLen s.data.toList)).data.toList, isRun c = true := by
  rw [Lib.extract_data]
  intro c hc
  simp only [List.drop_zero, Nat.sub_zero, runLen] at hc
  rw [List.prefix_iff_eq_take.1 (List.takeWhile_prefix isRun) |>.symm] at hc
  exact mem_while isRun _ c hc

set_option maxRecDepth 100000 in
set_option maxHeartbeats 1600000 in
theorem next_any {N : Nat} (s : ByteArray) (ln : Nat) (h0 : 0 < s.size) (hs : s.size < 1000000) (w : World) (hG : Gl N w) :
    Calls Tryz.prog 92 #[.string s, .int .i64 ln] w fun e w' => e = .returned (.tuple #[(nextF s ln).1.val, .int .i64 (nextF s ln).2]) ∧ Ext w w' := by
  have hix := pairs_index
  have hg := hG.pairs
  have hrn := run_any s hs
  have hrl := runLen_le s.data.toList
  have hle := Lib.size_eq s
  have hsp := fun w' (hb : Ext w w') (hz : 0 < runLen s.data.toList) => spelled_any (s.extract 0 (runLen s.data.toList)) ln (by rw [ByteArray.size_extract]; omega) (by rw [ByteArray.size_extract]; omega) (run_take s) w' (hG.ext hb)
  have hpf := fun (p : List UInt8) w' => Tryz.strings_HasPrefix s ⟨p.toArray⟩ w'
  have hib := Tryz.strings_IndexByte ⟨singlesT.toArray⟩ s[0].toNat
  have hf : nextF s ln = if 0 < runLen s.data.toList then (spelledF (s.extract 0 (runLen s.data.toList)) ln, runLen s.data.toList) else match (pairsT.drop 0).find? (fun p => Lib.hasPrefix s.data.toList p) with
    | some p => (⟨0, ⟨p.toArray⟩, ln, 0⟩, 2)
    | none => if 0 ≤ Lib.indexByte singlesT s[0] then (⟨0, s.extract 0 1, ln, 0⟩, 1) else (⟨5, ⟨#[]⟩, ln, 0⟩, 0) := by
    rw [← head_get s h0]; rfl
  rw [Lib.byte_back'] at hib
  generalize hn : runLen s.data.toList = n at *
  have hn2 : n ≤ s.size := by omega
  have hE : Ext w (w.alloc (.cells #[.int .i64 0, .string ⟨#[]⟩, .int .i64 0, .int .u32 0] 69 (0, 0))) := (Ext.refl w).alloc _
  generalize nextF s ln = T at *
  generalize spelledF (s.extract 0 n) ln = t at *
  obtain ⟨kind, text, line, num⟩ := t
  obtain ⟨T, m⟩ := T
  have Hf := Lib.hid hf
  clear hf hG hrl hle
  generalize hV : pairsV = V at *
  have hlen : V.length = 8 := by rw [← hV]; rfl
  go_enter Tryz.func92, Tryz.ntmps92
  go_wp2_with fail
  refine (hrn _).mono ?_
  rintro e w1 ⟨rfl, rfl⟩
  by_cases hz : 0 < n
  · have hT : (T, m) = (⟨kind, text, line, num⟩, n) := Hf.out.trans (if_pos hz)
    have hsp := hsp _ hE hz
    simp only [Prod.mk.injEq] at hT
    obtain ⟨rfl, rfl⟩ := hT
    clear Hf
    go_wp2_with fail
    refine hsp.mono ?_
    rintro e w2 ⟨rfl, hb⟩
    have s2 := hb.size
    obtain ⟨hc, hf⟩ := hb.rules
    simp only [szA] at s2 hc hf
    have s5 : w.heap.size < w2.heap.size := by omega
    go_wp2_with fail
    refine bodyPost_ret (v := .tuple #[Tok.val ⟨kind, text, line, num⟩, .int .i64 m]) (by simp [results, Tryz.results92, go_sem, *]) rfl (show _ = Ending.returned _ ∧ Ext _ _ from ⟨rfl, ?_⟩)
    repeat' (with_reducible first | exact hE.trans hb | exact Nat.le_refl _ | apply Ext.drew | apply Ext.setCell)
  · have hz0 : n = 0 := by omega
    subst hz0
    have Hf2 := Lib.hid (Hf.out.trans (if_neg hz))
    clear Hf hsp hz hn hn2
    go_wp2_with (refine wpList_load_cells rfl 223 _ rfl 2 rfl V (.array 8 9) (hg.keep hE) (by kernel_rfl) rfl (by rw [hlen]; kernel_rfl) ?_)
    go_loopw [20] (fun v wr => ∃ k : Nat, k ≤ 8 ∧ v = .int .i64 k ∧ wr = w.alloc (.cells #[.int .i64 0, .string ⟨#[]⟩, .int .i64 0, .int .u32 0] 69 (0, 0)) ∧ Hid ((pairsT.drop k).find? (fun p => Lib.hasPrefix s.data.toList p) = (pairsT.drop 0).find? (fun p => Lib.hasPrefix s.data.toList p))) (fun v _ => 8 - (intOf v).toNat)
    case atStart => exact ⟨0, by omega, rfl, rfl, rfl⟩
    case round =>
      obtain ⟨k, hk, rfl, rfl, ht⟩ := hrel
      by_cases hlt : k < 8
      · have hd := pairs_drop (fun p => Lib.hasPrefix s.data.toList p) k hlt
        have hx := hix k hlt
        clear hix
        have Ht := Lib.hid (hd.symm.trans ht.out)
        clear ht hd
        generalize pairsT.getD k default = x at *
        have hpx := hpf x
        cases he : Lib.hasPrefix s.data.toList x with
        | true =>
          have hT : (T, m) = (⟨0, ⟨x.toArray⟩, ln, 0⟩, 2) := by have h1 := Ht.out; have h2 := Hf2.out; simp only [he, if_true] at h1; rw [← h1] at h2; exact h2
          simp only [Prod.mk.injEq] at hT
          obtain ⟨rfl, rfl⟩ := hT
          clear Hf2 Ht
          rw [he] at hpx
          go_wp2_with fail
          refine (hpx _).mono ?_
          rintro e w2 ⟨rfl, rfl⟩
          go_wp2_with fail
          exact bodyPost_ret (v := .tuple #[Tok.val ⟨0, ⟨x.toArray⟩, ln, 0⟩, .int .i64 2]) (by simp [results, Tryz.results92, go_sem, *]) rfl (show _ = Ending.returned _ ∧ Ext _ _ from ⟨rfl, (Ext.refl w).alloc _⟩)
        | false =>
          have Ht2 : Hid ((pairsT.drop (k + 1)).find? (fun p => Lib.hasPrefix s.data.toList p) = (pairsT.drop 0).find? (fun p => Lib.hasPrefix s.data.toList p)) := Lib.hid (by have h1 := Ht.out; simp only [he, Bool.false_eq_true, if_false] at h1; exact h1)
          clear Ht
          rw [he] at hpx
          go_wp2_with fail
          refine (hpx _).mono ?_
          rintro e w2 ⟨rfl, rfl⟩
          go_wp2_with fail
          exact ⟨⟨k + 1, by omega, by go_num, by first | rfl | trivial, Ht2⟩, by simp [intOf]; omega⟩
      · have hk' : k = 8 := by omega
        subst hk'
        have hno : (pairsT.drop 0).find? (fun p => Lib.hasPrefix s.data.toList p) = none := ht.out.symm
        have hf3 := Hf2.out
        rw [hno] at hf3
        have Hf3 := Lib.hid hf3
        clear hf3 Hf2 ht hno hix hpf
        go_wp2_with fail
        refine (hib _).mono ?_
        rintro e w2 ⟨rfl, rfl⟩
        by_cases hi : 0 ≤ Lib.indexByte singlesT s[0]
        · have hT : (T, m) = (⟨0, s.extract 0 1, ln, 0⟩, 1) := Hf3.out.trans (if_pos hi)
          simp only [Prod.mk.injEq] at hT
          obtain ⟨rfl, rfl⟩ := hT
          clear Hf3
          generalize Lib.indexByte singlesT s[0] = j at *
          go_wp2_with fail
          exact bodyPost_ret (v := .tuple #[Tok.val ⟨0, s.extract 0 1, ln, 0⟩, .int .i64 1]) (by simp [results, Tryz.results92, go_sem, *]) rfl (show _ = Ending.returned _ ∧ Ext _ _ from ⟨rfl, (Ext.refl w).alloc _⟩)
        · have hT : (T, m) = (⟨5, ⟨#[]⟩, ln, 0⟩, 0) := Hf3.out.trans (if_neg hi)
          simp only [Prod.mk.injEq] at hT
          obtain ⟨rfl, rfl⟩ := hT
          clear Hf3
          generalize Lib.indexByte singlesT s[0] = j at *
          have hj : j < 0 := by omega
          go_wp2_with fail
          exact bodyPost_ret (v := .tuple #[Tok.val ⟨5, ⟨#[]⟩, ln, 0⟩, .int .i64 0]) (by simp [results, Tryz.results92, go_sem, *]) rfl (show _ = Ending.returned _ ∧ Ext _ _ from ⟨rfl, (Ext.refl w).alloc _⟩)
end Go.Proofs.YtgjgaeloehfhiaaGreatDoor
end
