/- A source cut into tokens. -/
import Derived.Test.YtgjgaeloehfhiaaGreatDoorM22
import Derived.Test.YtgjgaeloehfhiaaGreatDoorM06
import Derived.Lib.OthersKept
import Derived.Lib.TrimU
import Derived.Laws.RangeAny
import Derived.Lib.MapLaws
import Derived.Lib.TrimUEq
import Derived.Test.YtgjgaeloehfhiaaGreatDoorM20
import Derived.Defers
import Derived.Recover
import Derived.Laws.Pointers
section
namespace Go.Proofs.YtgjgaeloehfhiaaGreatDoor
open Go.RowKit

/-- A text's tokens from a place on; line: where it stands, behind: up to where what stands there counts already. -/
def cutG (s : ByteArray) : Nat → Nat → Nat → Nat → List Tok → List Tok
  | 0, _, _, _, acc => acc
  | f + 1, pos, line, behind, acc =>
    if pos < s.size then
      let c := (Utf8.decode s pos).1
      let p := pos + (Utf8.decode s pos).2
      if c = 10 then cutG s f p (line + 1) behind acc
      else if pos < behind ∨ c = 32 ∨ c = 9 then cutG s f p line behind acc
      else if Lib.hasPrefix (s.extract pos s.size).data.toList [47, 47] then
        let n := Lib.indexByte (s.extract pos s.size).data.toList 10
        cutG s f p line (if n < 0 then s.size else pos + n.toNat) acc
      else
        let t := nextF (s.extract pos s.size) line
        if t.1.kind = 5 then acc ++ [t.1] else cutG s f p line (pos + t.2) (acc ++ [t.1])
    else acc ++ [⟨4, ⟨#[]⟩, line, 0⟩]

def cutF (s : ByteArray) : List Tok := cutG s (s.size + 1) 0 1 0 []

def Tok.cells (t : Tok) : List Value := [.int .i64 t.kind, .string t.text, .int .i64 t.line, .int .u32 t.num]
theorem flat_len : ∀ l : List Tok, (l.flatMap Tok.cells).length = l.length * 4
  | [] => rfl
  | t :: l => by rw [List.flatMap_cons, List.length_append, flat_len l, List.length_cons]; simp [Tok.cells]; omega
theorem flat_get : ∀ (l : List Tok) (i j : Nat), i < l.length → j < 4 → (l.flatMap Tok.cells)[i * 4 + j]? = (l.getD i default).cells[j]?
  | t :: l, 0, j, _, hj => by rw [List.flatMap_cons, List.getElem?_append_left (by simp [Tok.cells]; omega)]; simp
  | t :: l, i + 1, j, hi, hj => by
    rw [List.flatMap_cons, List.getElem?_append_right (by simp [Tok.cells]; omega)]
    rw [show (i + 1) * 4 + j - t.cells.length = i * 4 + j by simp [Tok.cells]; omega, flat_get l i j (by simpa using hi) hj]
    simp

theorem TokArr.of_row {w : World} {base lb cap : Nat} {toks : List Tok} (h : w.ownsRow base 69 4 (.slice (some ⟨lb, 0, none⟩) toks.length cap) toks.length (toks.flatMap Tok.cells)) : TokArr w lb toks := by
  intro i hi
  have hc := fun j (hj : j < 4) u (hu : (toks.getD i default).cells[j]? = some u) => h.cells (g := lb) rfl (i * 4 + j) u ((flat_get toks i j hi hj).trans hu)
  simp only [add0] at hc
  exact ⟨hc 0 (by omega) _ rfl, hc 1 (by omega) _ rfl, hc 2 (by omega) _ rfl, hc 3 (by omega) _ rfl⟩

/-- What a cutting leaves. -/
def CutPost (toks : List Tok) (w : World) (e : Ending) (w' : World) : Prop :=
  ∃ lb cap, e = .returned (.slice (some ⟨lb, 0, none⟩) toks.length cap) ∧ w.heap.size ≤ lb ∧ lb < w'.heap.size ∧ TokArr w' lb toks ∧ Ext w w'

theorem info69 : (Tryz.prog.info? 69).map (fun i => (i.zero, i.size, i.bytes)) = some (some (.agg #[.int .i64 0, .string ⟨#[]⟩, .int .i64 0, .int .u32 0]), 4, 40) := by kernel_rfl

theorem Ext.iterAt {a w : World} (h : Ext a w) {k : Nat} (hk : a.heap.size ≤ k) (s : ByteArray) (pos : Nat) : Ext a (w.iterAt k s pos) :=
  .of_below (Lib.below_iterAt h.below hk s pos)

theorem own_iter {w : World} {base e size n k : Nat} {v : Value} {xs : List Value} (h : w.ownsRow base e size v n xs) {s : ByteArray} {pos : Nat} (hk : w.heap[k]? = some (.stringIter s pos)) (p' : Nat) : (w.iterAt k s p').ownsRow base e size v n xs := by
  refine own_keep h (fun g hg => Lib.iterAt_other w k g s p' ?_) (Nat.le_refl _)
  rintro rfl
  rcases h.2 with ⟨rfl, _⟩ | ⟨g', _, _, rfl, _, hh, _⟩
  · simp [Value.ownBlock] at hg
  · simp only [Value.ownBlock, Option.some.injEq] at hg
    subst hg
    rw [hk] at hh
    cases hh

theorem nextF_le (s : ByteArray) (ln : Nat) (h : 0 < s.size) : (nextF s ln).2 ≤ s.size := by
  have h1 := runLen_le s.data.toList
  have h2 := Lib.size_eq s
  unfold nextF
  split
  · simp only; omega
  · split
    · rename_i p hp
      have h3 := List.find?_some hp
      have h4 := (List.isPrefixOf_iff_prefix.1 h3).length_le
      have h5 : ∀ q ∈ pairsT, q.length = 2 := by decide
      have h6 := h5 p (List.mem_of_find?_eq_some hp)
      simp only; omega
    · split <;> simp only <;> omega

theorem own_slice {w : World} {base e size n : Nat} {v : Value} {xs : List Value} (h : w.ownsRow base e size v (n + 1) xs) : ∃ lb cap, v = .slice (some ⟨lb, 0, none⟩) (n + 1) cap ∧ base ≤ lb ∧ lb < w.heap.size := by
  have hb := fun g => own_block h (g := g)
  rcases h.2 with ⟨_, h0⟩ | ⟨g, cap, cur, rfl, _⟩
  · omega
  · exact ⟨g, cap, rfl, (hb g rfl).1, (hb g rfl).2⟩

theorem CutPost.of_row {w w' : World} {acc : List Tok} {t : Tok} {v : Value} {base : Nat} (hrow : w'.ownsRow base 69 4 v (acc.length + 1) (acc.flatMap Tok.cells ++ t.cells)) (hb : w.heap.size ≤ base) (hE : Ext w w') :
    CutPost (acc ++ [t]) w (.returned v) w' := by
  obtain ⟨lb, cap, rfl, h1, h2⟩ := own_slice hrow
  refine ⟨lb, cap, by simp, by omega, h2, ?_, hE⟩
  have e : (acc ++ [t]).flatMap Tok.cells = acc.flatMap Tok.cells ++ t.cells := by simp
  exact TokArr.of_row (base := base) (cap := cap) (by rw [e]; simpa using hrow)

set_option maxRecDepth 100000 in
set_option maxHeartbeats 3200000 in
theorem cut_any {N : Nat} (s : ByteArray) (hs : s.size < 90000) (w : World) (hG : Gl N w) :
    Calls Tryz.prog 49 #[.string s] w (CutPost (cutF s) w) := by
  have hNS : N ≤ w.heap.size := by obtain ⟨w0, _, h1, h2⟩ := hG; have := h2.size; omega
  have HGL := Lib.hid hG
  clear hG
  have Hf : Hid (cutF s = cutG s (s.size + 1) 0 1 0 []) := Lib.hid rfl
  generalize cutF s = F at *
  go_enter Tryz.func49, Tryz.ntmps49
  go_wp2
  go_loopw [3, 4, 5] (fun vl v4 v5 wr => ∃ (pos line behind f : Nat) (acc : List Tok), v4 = .int .i64 line ∧ v5 = .int .i64 behind ∧ wr.heap[w.heap.size]? = some (.stringIter s pos) ∧ Ext w wr ∧
    wr.ownsRow (w.heap.size + 1) 69 4 vl acc.length (acc.flatMap Tok.cells) ∧ Hid (F = cutG s f pos line behind acc) ∧ s.size < f + pos ∧ line ≤ s.size + 1 ∧ line ≤ pos + 1 ∧ behind ≤ s.size ∧ acc.length ≤ pos ∧ acc.length ≤ s.size ∧ pos ≤ s.size)
    (fun _ _ _ wr => s.size - wr.iterPos w.heap.size)
  case atStart =>
    refine ⟨0, 1, 0, s.size + 1, [], rfl, rfl, World.iter_heap _ _ _, (Ext.refl w).alloc _, World.ownsRow_nil _ _ _ _, Hf, by omega, by omega, by omega, by omega, by simp, by simp, by omega⟩
  case round =>
    obtain ⟨pos, line, behind, f, acc, rfl, rfl, hit, hE, hrow, HF, b1, b2, b3, b4, b5, b6, b7⟩ := hrel
    by_cases hp : pos < s.size
    · have hnx := fun ty => Lib.run_next_any_at (P := Tryz.prog) wr w.heap.size s pos ty hit hp
      have hwd := Lib.width_pos s pos
      have hwl : pos + (Utf8.decode s pos).2 ≤ s.size := by
        have h1 := Lib.decodeL_le (s.data.toList.drop pos) (by rw [Ne, List.drop_eq_nil_iff]; have := Lib.size_eq s; omega)
        rw [Lib.decodeL_drop, List.length_drop] at h1
        have := Lib.size_eq s
        omega
      have hl1 : s.size - (pos + (Utf8.decode s pos).2) < s.size - pos := by omega
      have hip : wr.iterPos w.heap.size = pos := by simp [World.iterPos, hit]
      have hit2 := Lib.iterAt_heap wr w.heap.size s pos (pos + (Utf8.decode s pos).2) hit
      have hip2 : (wr.iterAt w.heap.size s (pos + (Utf8.decode s pos).2)).iterPos w.heap.size = pos + (Utf8.decode s pos).2 := by simp [World.iterPos, hit2]
      have hE2 := hE.iterAt (Nat.le_refl _) s (pos + (Utf8.decode s pos).2)
      have hrow2 := own_iter hrow hit (pos + (Utf8.decode s pos).2)
      obtain ⟨g, rfl⟩ : ∃ g, f = g + 1 := ⟨f - 1, by omega⟩
      have hF := HF.out
      simp only [cutG, if_pos hp] at hF
      clear hrow hE HF hit
      have HIP := Lib.hid hip
      have HIP2 := Lib.hid hip2
      have HROW := Lib.hid hrow2
      have HIT := Lib.hid hit2
      have HE := Lib.hid hE2
      clear hip hip2 hit2 hE2 hrow2
      generalize wr.iterAt w.heap.size s (pos + (Utf8.decode s pos).2) = w1 at *
      generalize Utf8.decode s pos = cw at *
      obtain ⟨c, wd⟩ := cw
      simp only at hF hnx HIP2 hwd hwl
      by_cases h10 : c = 10
      · subst h10
        simp only [if_true] at hF
        have HF := Lib.hid hF
        clear hF
        go_wp2_with fail
        all_goals exact ⟨⟨pos + wd, line + 1, behind, g, acc, by go_num, rfl, HIT.out, HE.out, HROW.out, HF, by omega, by omega, by omega, by omega, by omega, by omega, by omega⟩, by rw [HIP.out, HIP2.out]; omega⟩
      · have e10 : ((c : Int) == 10) = false := by rw [beq_eq_false_iff_ne]; omega
        rw [if_neg h10] at hF
        by_cases hsk : pos < behind ∨ c = 32 ∨ c = 9
        · rw [if_pos hsk] at hF
          have HF := Lib.hid hF
          clear hF
          by_cases hpb : pos < behind
          · clear hsk
            go_wp2_with fail
            all_goals exact ⟨⟨pos + wd, line, behind, g, acc, rfl, rfl, HIT.out, HE.out, HROW.out, HF, by omega, by omega, by omega, by omega, by omega, by omega, by omega⟩, by rw [HIP.out, HIP2.out]; omega⟩
          · rcases hsk with h | rfl | rfl
            · exact absurd h hpb
            · go_wp2_with fail
              all_goals exact ⟨⟨pos + wd, line, behind, g, acc, rfl, rfl, HIT.out, HE.out, HROW.out, HF, by omega, by omega, by omega, by omega, by omega, by omega, by omega⟩, by rw [HIP.out, HIP2.out]; omega⟩
            · go_wp2_with fail
              all_goals exact ⟨⟨pos + wd, line, behind, g, acc, rfl, rfl, HIT.out, HE.out, HROW.out, HF, by omega, by omega, by omega, by omega, by omega, by omega, by omega⟩, by rw [HIP.out, HIP2.out]; omega⟩
        · rw [if_neg hsk] at hF
          have e32 : ((c : Int) == 32) = false := by rw [beq_eq_false_iff_ne]; omega
          have e9 : ((c : Int) == 9) = false := by rw [beq_eq_false_iff_ne]; omega
          have hpb : behind ≤ pos := by omega
          have hpre := Tryz.strings_HasPrefix (s.extract pos s.size) ⟨#[47, 47]⟩ w1
          rw [show ((⟨#[47, 47]⟩ : ByteArray).data.toList) = [47, 47] from rfl] at hpre
          have hib := Tryz.strings_IndexByte (s.extract pos s.size) 10 w1
          rw [show ((10 : Int).toNat.toUInt8) = 10 from rfl] at hib
          have hi1 := Lib.indexByte_piece s pos s.size 10
          have hnext := next_any (s.extract pos s.size) line (by rw [ByteArray.size_extract]; omega) (by rw [ByteArray.size_extract]; omega) w1 (HGL.out.ext HE.out)
          have hes : (s.extract pos s.size).size = s.size - pos := by rw [ByteArray.size_extract, Nat.min_self]
          clear hsk h10
          cases hpf : Lib.hasPrefix (s.extract pos s.size).data.toList [47, 47] with
          | true =>
            rw [hpf] at hpre hF
            clear hnext
            rw [if_pos rfl] at hF
            generalize Lib.indexByte (s.extract pos s.size).data.toList 10 = n at *
            have HF := Lib.hid hF
            clear hF
            go_wp2_with fail
            refine hpre.mono ?_
            rintro e w1 ⟨rfl, rfl⟩
            go_wp2_with fail
            refine hib.mono ?_
            rintro e w1 ⟨rfl, rfl⟩
            rcases hi1 with rfl | ⟨o, rfl, hi2⟩
            · rw [if_pos (by omega)] at HF
              go_wp2_with fail
              all_goals exact ⟨⟨pos + wd, line, s.size, g, acc, rfl, by go_num, HIT.out, HE.out, HROW.out, HF, by omega, by omega, by omega, by omega, by omega, by omega, by omega⟩, by rw [HIP.out, HIP2.out]; omega⟩
            · rw [if_neg (by omega)] at HF
              go_wp2_with fail
              all_goals exact ⟨⟨pos + wd, line, pos + o, g, acc, rfl, by go_num, HIT.out, HE.out, HROW.out, HF, by omega, by omega, by omega, by omega, by omega, by omega, by omega⟩, by rw [HIP.out, HIP2.out]; omega⟩
          | false =>
            rw [hpf] at hpre hF
            clear hib hi1
            have hnl := nextF_le (s.extract pos s.size) line (by omega)
            rw [hes] at hnl
            simp only [Bool.false_eq_true, if_false] at hF
            generalize nextF (s.extract pos s.size) line = T at *
            obtain ⟨⟨kind, text, ln, num⟩, n⟩ := T
            simp only at hF hnl
            go_wp2_with fail
            refine hpre.mono ?_
            rintro e w1 ⟨rfl, rfl⟩
            go_wp2_with fail
            refine hnext.mono ?_
            rintro e w2 ⟨rfl, hb⟩
            have x2 := hb.size
            have hin : w.heap.size < w1.heap.size := (Array.getElem?_eq_some_iff.1 HIT.out).1
            have hE3 : Ext w1 ((w2.alloc (.cells #[.int .i64 kind, .string text, .int .i64 ln, .int .u32 num] 69)).alloc (.cells #[.int .i64 kind, .string text, .int .i64 ln, .int .u32 num] 69)) := (hb.alloc _).alloc _
            have hra := own_keep HROW.out (fun q hq => hE3.block q (own_block HROW.out hq).2) (Nat.le_refl _)
            have hnews : ∀ (j : Nat) (u : Value), (Tok.cells ⟨kind, text, ln, num⟩)[j]? = some u → ((w2.alloc (.cells #[.int .i64 kind, .string text, .int .i64 ln, .int .u32 num] 69)).alloc (.cells #[.int .i64 kind, .string text, .int .i64 ln, .int .u32 num] 69)).cell? ((⟨w2.heap.size + 1, 0, none⟩ : Addr).add j) = some u := by
              intro j u hu
              rw [add0, cell_of_heap (c := #[.int .i64 kind, .string text, .int .i64 ln, .int .u32 num]) (T := 69) (f := (0, 0)) (by rw [heapA, szA, if_pos rfl])]
              simpa [Tok.cells] using hu
            have hone : ∀ u ∈ Tok.cells ⟨kind, text, ln, num⟩, u.oneCell' = true := by
              intro u hu
              simp only [Tok.cells, List.mem_cons, List.not_mem_nil, or_false] at hu
              rcases hu with rfl | rfl | rfl | rfl <;> rfl
            have hgr : ∀ w3, ((w2.alloc (.cells #[.int .i64 kind, .string text, .int .i64 ln, .int .u32 num] 69)).alloc (.cells #[.int .i64 kind, .string text, .int .i64 ln, .int .u32 num] 69)).grownBy w3 u3.ownBlock →
                w3.cell? ⟨w2.heap.size, 0, none⟩ = some (.int .i64 kind) ∧ w3.heap[w.heap.size]? = some (.stringIter s (pos + wd)) ∧ Ext w w3 := by
              intro w3 hg3
              have hown := fun q hq => own_block HROW.out (g := q) hq
              refine ⟨?_, ?_, ?_⟩
              · refine (cell_same (hg3.block w2.heap.size (by simp only [szA]; omega) (fun e => by have := (hown _ e.symm).2; omega))).trans ?_
                rw [cell_of_heap (c := #[.int .i64 kind, .string text, .int .i64 ln, .int .u32 num]) (T := 69) (f := (0, 0)) (by rw [heapA, szA, if_neg (by omega), heapA, if_pos rfl])]
                rfl
              · rw [hg3.block w.heap.size (by simp only [szA]; omega) (fun e => by have := (hown _ e.symm).1; omega), hE3.block _ hin, HIT.out]
              · have h := (HE.out.trans hE3)
                exact ⟨hg3.os.trans h.os, hg3.tape.trans h.tape, hg3.output.trans h.output, Nat.le_trans h.size hg3.size, fun k hk => by
                  rw [hg3.block k (Nat.lt_of_lt_of_le hk h.size) (fun e => by have := (hown _ e.symm).1; omega)]; exact h.block k hk⟩
            obtain ⟨i0, hi0, hz0, hz1, hz2⟩ := info_parts info69
            clear hpf hnext hpre
            have CONT : ∀ {o : Oper} {rest : List Oper} {ops : Array Oper} {a : Act} {Q : Exit → Act → World → Prop}, o.guard = none → o.op = .call { callee := .builtin .append, args := #[.tmp 61, .tmp 63], argTypes := #[137, 137] } → a.eval (.tmp 61) = u3 → a.eval (.tmp 63) = .slice (some ⟨w2.heap.size + 1, 0, none⟩) 1 1 →
                (∀ v' w3, Hid (w3.ownsRow (w.heap.size + 1) 69 4 v' (acc.length + 1) (acc.flatMap Tok.cells ++ Tok.cells ⟨kind, text, ln, num⟩)) → w3.cell? ⟨w2.heap.size, 0, none⟩ = some (.int .i64 kind) → Hid (w3.heap[w.heap.size]? = some (.stringIter s (pos + wd))) → Hid (Ext w w3) → wpList Tryz.prog ops Q rest (a.put o.dst v') w3) →
                wpList Tryz.prog ops Q (o :: rest) a ((w2.alloc (.cells #[.int .i64 kind, .string text, .int .i64 ln, .int .u32 num] 69)).alloc (.cells #[.int .i64 kind, .string text, .int .i64 ln, .int .u32 num] 69)) := by
              intro o rest ops a Q hgd ho e1 e2 h
              refine wpList_own_append hgd (.tmp 61) (.tmp 63) 137 ho (w.heap.size + 1) 69 i0 _ 4 40 Tryz.underlying137 hi0 hz0 hz1 hz2 rfl (by decide) u3 acc.length (acc.flatMap Tok.cells) e1 hra
                ⟨w2.heap.size + 1, 0, none⟩ 1 1 (Tok.cells ⟨kind, text, ln, num⟩) e2 rfl hnews hone (by simp only [maxLen]; omega) (by omega) (by simp only [szA]; omega) ?_
              intro v' w3 hrow3 hg3 hb3
              obtain ⟨g1, g2, g3⟩ := hgr w3 hg3
              exact h v' w3 hrow3 g1 g2 g3
            clear hgr hnews hone hra hE3
            by_cases h5 : kind = 5
            · subst h5
              rw [if_pos rfl] at hF
              have HF := Lib.hid hF
              clear hF
              go_wp2_with (refine CONT rfl rfl rfl rfl ?_; intro v' w3 HR3 hk3 HI3 HE3)
              go_ret
              rw [HF.out]
              exact CutPost.of_row HR3.out (by omega) HE3.out
            · rw [if_neg h5] at hF
              have HF := Lib.hid hF
              have e5 : ((kind : Int) == 5) = false := by rw [beq_eq_false_iff_ne]; omega
              clear hF
              go_wp2_with (refine CONT rfl rfl rfl rfl ?_; intro v' w3 HR3 hk3 HI3 HE3)
              all_goals exact ⟨⟨pos + wd, line, pos + n, g, acc ++ [⟨kind, text, ln, num⟩], rfl, by go_num, HI3.out, HE3.out, by have h := HR3.out; simpa [List.length_append, List.flatMap_append] using h, HF, by omega, by omega, by omega, by omega, by simp; omega, by simp; omega, by omega⟩, by have h := HI3.out; rw [HIP.out, World.iterPos, h]; simp only; omega⟩
    · have hnx := fun ty => Lib.run_next_end_at (P := Tryz.prog) wr w.heap.size s pos ty hit hp
      obtain ⟨g, rfl⟩ : ∃ g, f = g + 1 := ⟨f - 1, by omega⟩
      have hF := HF.out
      simp only [cutG, if_neg hp] at hF
      have HF2 := Lib.hid hF
      have hE3 : Ext wr (wr.alloc (.cells #[.int .i64 4, .string ⟨#[]⟩, .int .i64 line, .int .u32 0] 69)) := (Ext.refl _).alloc _
      have hra := own_keep hrow (fun q hq => hE3.block q (own_block hrow hq).2) (Nat.le_refl _)
      have hnews : ∀ (j : Nat) (u : Value), (Tok.cells ⟨4, ⟨#[]⟩, line, 0⟩)[j]? = some u → (wr.alloc (.cells #[.int .i64 4, .string ⟨#[]⟩, .int .i64 line, .int .u32 0] 69)).cell? ((⟨wr.heap.size, 0, none⟩ : Addr).add j) = some u := by
        intro j u hu
        rw [add0, cell_of_heap (c := #[.int .i64 4, .string ⟨#[]⟩, .int .i64 line, .int .u32 0]) (T := 69) (f := (0, 0)) (by rw [heapA, if_pos rfl])]
        simpa [Tok.cells] using hu
      have hone : ∀ u ∈ Tok.cells ⟨4, ⟨#[]⟩, line, 0⟩, u.oneCell' = true := by
        intro u hu
        simp only [Tok.cells, List.mem_cons, List.not_mem_nil, or_false] at hu
        rcases hu with rfl | rfl | rfl | rfl <;> rfl
      obtain ⟨i0, hi0, hz0, hz1, hz2⟩ := info_parts info69
      have x2 := hE.size
      have CONT : ∀ {o : Oper} {rest : List Oper} {ops : Array Oper} {a : Act} {Q : Exit → Act → World → Prop}, o.guard = none → o.op = .call { callee := .builtin .append, args := #[.tmp 72, .tmp 75], argTypes := #[137, 137] } → a.eval (.tmp 72) = u3 → a.eval (.tmp 75) = .slice (some ⟨wr.heap.size, 0, none⟩) 1 1 →
          (∀ v' w3, Hid (CutPost (acc ++ [⟨4, ⟨#[]⟩, line, 0⟩]) w (.returned v') w3) → wpList Tryz.prog ops Q rest (a.put o.dst v') w3) →
          wpList Tryz.prog ops Q (o :: rest) a (wr.alloc (.cells #[.int .i64 4, .string ⟨#[]⟩, .int .i64 line, .int .u32 0] 69)) := by
        intro o rest ops a Q hgd ho e1 e2 h
        refine wpList_own_append hgd (.tmp 72) (.tmp 75) 137 ho (w.heap.size + 1) 69 i0 _ 4 40 Tryz.underlying137 hi0 hz0 hz1 hz2 rfl (by decide) u3 acc.length (acc.flatMap Tok.cells) e1 hra
          ⟨wr.heap.size, 0, none⟩ 1 1 (Tok.cells ⟨4, ⟨#[]⟩, line, 0⟩) e2 rfl hnews hone (by simp only [maxLen]; omega) (by omega) (by simp only [szA]; omega) ?_
        intro v' w3 hrow3 hg3 hb3
        refine h v' w3 (CutPost.of_row hrow3 (by omega) ?_)
        have h := hE.trans hE3
        have hown := fun q hq => own_block hrow (g := q) hq
        exact ⟨hg3.os.trans h.os, hg3.tape.trans h.tape, hg3.output.trans h.output, Nat.le_trans h.size hg3.size, fun k hk => by
          rw [hg3.block k (Nat.lt_of_lt_of_le hk h.size) (fun e => by have := (hown _ e.symm).1; omega)]; exact h.block k hk⟩
      clear hF HF hrow hra hnews hone hE3
      go_wp2_with (refine CONT rfl rfl rfl rfl ?_; intro v' w3 HP)
      go_ret
      rw [HF2.out]
      exact HP.out
end Go.Proofs.YtgjgaeloehfhiaaGreatDoor
end
section
/- What is known of the tokens of a source. -/
namespace Go.Proofs.YtgjgaeloehfhiaaGreatDoor
open Go.RowKit

/-- A token as the cutter makes it, of a text of so many bytes. -/
structure TokOK (m : Nat) (t : Tok) : Prop where
  num : t.num < 4294967296
  text : t.text.size ≤ m
  line0 : 1 ≤ t.line
  line1 : t.line ≤ m + 1
  kind : t.kind ≤ 5

theorem valuedF_lt {l : List UInt8} {n : Nat} (h : valuedF l = some n) : n < 4294967296 := by
  unfold valuedF at h
  cases hx : Lib.hasPrefix l [48, 120] with
  | true =>
    simp only [hx, if_true] at h
    split at h
    · simp at h
    · rename_i hc
      exact uintR_lt h fun _ => by omega
  | false =>
    simp only [hx, Bool.false_eq_true, if_false] at h
    split at h
    · simp at h
    · rename_i hc
      exact uintR_lt h fun h => by simp at h

theorem spelledF_ok {m : Nat} (s : ByteArray) (ln : Nat) (hs : s.size ≤ m) (h1 : 1 ≤ ln) (h2 : ln ≤ m + 1) : TokOK m (spelledF s ln) := by
  unfold spelledF
  split
  · exact ⟨by simp, hs, h1, h2, by simp⟩
  · split
    · split
      · exact ⟨by simp, Nat.zero_le _, h1, h2, by simp⟩
      · rename_i n hn
        exact ⟨valuedF_lt hn, hs, h1, h2, by simp⟩
    · split
      · exact ⟨by simp, Nat.zero_le _, h1, h2, by simp⟩
      · exact ⟨by simp, hs, h1, h2, by simp⟩

theorem nextF_ok {m : Nat} (s : ByteArray) (ln : Nat) (h0 : 0 < s.size) (hs : s.size ≤ m) (h1 : 1 ≤ ln) (h2 : ln ≤ m + 1) : TokOK m (nextF s ln).1 := by
  have hl := Lib.size_eq s
  unfold nextF
  split
  · exact spelledF_ok _ _ (by rw [ByteArray.size_extract]; omega) h1 h2
  · split
    · rename_i p hp
      have h3 := List.find?_some hp
      have h4 := (List.isPrefixOf_iff_prefix.1 h3).length_le
      exact ⟨by simp, (by show p.toArray.size ≤ m; rw [List.size_toArray]; omega), h1, h2, by simp⟩
    · split
      · exact ⟨by simp, by simp only [ByteArray.size_extract]; omega, h1, h2, by simp⟩
      · exact ⟨by simp, Nat.zero_le _, h1, h2, by simp⟩

theorem decode_le (s : ByteArray) (pos : Nat) (h : pos < s.size) : pos + (Utf8.decode s pos).2 ≤ s.size := by
  have h1 := Lib.decodeL_le (s.data.toList.drop pos) (by rw [Ne, List.drop_eq_nil_iff]; have := Lib.size_eq s; omega)
  rw [Lib.decodeL_drop, List.length_drop] at h1
  have := Lib.size_eq s
  omega

/-- The tokens: what is known of all; the last is the end, or no token. -/
structure ToksOK (m : Nat) (l : List Tok) : Prop where
  all : ∀ t ∈ l, TokOK m t
  ne : 0 < l.length
  len : l.length ≤ m + 1
  fin : (l.getD (l.length - 1) default).kind = 4 ∨ (l.getD (l.length - 1) default).kind = 5

theorem getD_last (acc : List Tok) (t : Tok) : (acc ++ [t]).getD ((acc ++ [t]).length - 1) default = t := by
  simp [List.getD]

theorem ToksOK.snoc {m : Nat} {acc : List Tok} {t : Tok} (h : ∀ t ∈ acc, TokOK m t) (hl : acc.length ≤ m) (ht : TokOK m t) (hk : t.kind = 4 ∨ t.kind = 5) : ToksOK m (acc ++ [t]) := by
  refine ⟨?_, by simp, by simp; omega, by rw [getD_last]; exact hk⟩
  intro x hx
  rcases List.mem_append.1 hx with hx | hx
  · exact h x hx
  · simp only [List.mem_singleton] at hx; exact hx ▸ ht

theorem cutG_ok (s : ByteArray) : ∀ (f pos line behind : Nat) (acc : List Tok), s.size < f + pos → pos ≤ s.size → 1 ≤ line → line ≤ pos + 1 → acc.length ≤ pos → (∀ t ∈ acc, TokOK s.size t) → ToksOK s.size (cutG s f pos line behind acc)
  | 0, pos, line, behind, acc, h1, h2, _, _, _, _ => by omega
  | f + 1, pos, line, behind, acc, h1, h2, h3, h4, h5, h6 => by
    simp only [cutG]
    by_cases hp : pos < s.size
    · rw [if_pos hp]
      have hd := decode_le s pos hp
      have hw := Lib.width_pos s pos
      have hes : (s.extract pos s.size).size = s.size - pos := by rw [ByteArray.size_extract, Nat.min_self]
      have hn := nextF_ok (m := s.size) (s.extract pos s.size) line (by omega) (by omega) h3 (by omega)
      split
      · exact cutG_ok s f _ _ _ _ (by omega) hd (by omega) (by omega) (by omega) h6
      · split
        · exact cutG_ok s f _ _ _ _ (by omega) hd h3 (by omega) (by omega) h6
        · split
          · exact cutG_ok s f _ _ _ _ (by omega) hd h3 (by omega) (by omega) h6
          · split
            · rename_i h
              exact .snoc h6 (by omega) hn (.inr h)
            · refine cutG_ok s f _ _ _ _ (by omega) hd h3 (by omega) (by simp; omega) ?_
              intro x hx
              rcases List.mem_append.1 hx with hx | hx
              · exact h6 x hx
              · simp only [List.mem_singleton] at hx; exact hx ▸ hn
    · rw [if_neg hp]
      exact .snoc h6 (by omega) ⟨by simp, Nat.zero_le _, h3, by simp only; omega, by simp⟩ (.inl rfl)

theorem cutF_ok (s : ByteArray) : ToksOK s.size (cutF s) := cutG_ok s _ _ _ _ _ (by omega) (by omega) (by omega) (by omega) (by simp) (by simp)
end Go.Proofs.YtgjgaeloehfhiaaGreatDoor
end
section
/- What the reader's deferred function does. -/
namespace Go.Proofs.YtgjgaeloehfhiaaGreatDoor
open Go.RowKit

set_option maxRecDepth 100000 in
set_option maxHeartbeats 800000 in
theorem catch_idle (p q : Addr) (w : World) :
    CallsD Tryz.prog 48 #[.pointer (some p), .pointer (some q)] .returning w fun e u' w' => e = .returned (.tuple #[]) ∧ u' = .returning ∧ w' = w := by
  refine callsD_of_wpS Tryz.func48 rfl fun c₀ cs hu => ?_
  apply wpS_seq
  apply wpS_region
  simp [wpOpsS, go_sem, recoverD, hu, Tryz.ntmps48, Exit.thenS]
  refine wpS_of_wp ?_
  show Code.wp Tryz.prog _ _ ⟨#[.pointer (some p), .pointer (some q), .nilIface, undef, undef, .nilIface, undef, undef, undef, undef, undef, undef, undef, undef, undef, undef, undef], []⟩ _
  go_wp2
  simp [bodyPostS, results, Tryz.results48, go_sem]
  cases c₀
  simp_all

theorem run_assert92 (a b : Int) (w : World) : (Instr.typeAssert (.iface 92 (.agg #[.int .i64 a, .int .i64 b])) 20 92 true).run Tryz.prog w = .ok (.tuple #[.agg #[.int .i64 a, .int .i64 b], .bool true]) w := by kernel_rfl

set_option maxRecDepth 100000 in
set_option maxHeartbeats 800000 in
theorem catch_panicking (pb qb : Nat) (hpq : pb ≠ qb) (ln : Nat) (v x y : Value) (w : World) (hp : w.heap[pb]? = some (.cells #[v] 47 (0, 0))) (hq : w.heap[qb]? = some (.cells #[x, y] 92 (0, 0))) :
    CallsD Tryz.prog 48 #[.pointer (some ⟨pb, 0, none⟩), .pointer (some ⟨qb, 0, none⟩)] (.panicking [{ v := faultV ln 230, recovered := false }]) w fun e u' w' =>
      e = .returned (.tuple #[]) ∧ u' = .panicking [{ v := faultV ln 230, recovered := true }] ∧ w'.heap[pb]? = some (.cells #[.pointer none] 47 (0, 0)) ∧ w'.heap[qb]? = some (.cells #[.int .i64 ln, .int .i64 230] 92 (0, 0)) ∧
        (∀ k, k < w.heap.size → k ≠ pb → k ≠ qb → w'.heap[k]? = w.heap[k]?) ∧ w.heap.size ≤ w'.heap.size ∧ w'.os = w.os ∧ w'.tape = w.tape ∧ w'.output = w.output := by
  obtain ⟨hp0, hp1, hp2⟩ := cells_of_heap hp
  obtain ⟨hq0, hq1, hq2⟩ := cells_of_heap hq
  have hp0 := hp0 0
  have hq3 := hq0 1
  have hq0 := hq0 0
  have hp1 := hp1 0
  have hq4 := hq1 1
  have hq1 := hq1 0
  simp only [List.getElem?_toArray, List.getElem?_cons_zero, List.getElem?_cons_succ] at hp0 hq0 hq3
  have hta := run_assert92
  have n1 : w.heap.size ≠ pb := by omega
  have n2 : w.heap.size ≠ qb := by omega
  have n3 := hpq.symm
  have n4 := n1.symm
  have n5 := n2.symm
  have HP := Lib.hid hp
  have HQ := Lib.hid hq
  clear hp hq
  refine callsD_of_wpS Tryz.func48 rfl fun c₀ cs hu => ?_
  apply wpS_seq
  apply wpS_region
  simp [wpOpsS, go_sem, recoverD, hu, Tryz.ntmps48, Exit.thenS]
  refine wpS_of_wp ?_
  show Code.wp Tryz.prog _ _ ⟨#[.pointer (some ⟨pb, 0, none⟩), .pointer (some ⟨qb, 0, none⟩), faultV ln 230, undef, undef, faultV ln 230, undef, undef, undef, undef, undef, undef, undef, undef, undef, undef, undef], []⟩ _
  unfold faultV at *
  go_wp2
  go_region
  refine ⟨rfl, _, rfl, .tuple #[], by simp [results, Tryz.results48, go_sem], rfl, rfl, ?_, ?_, ?_, ?_, rfl, rfl, rfl⟩
  · rw [heapD, heapA, if_neg (by simp only [szS]; omega), heapS, if_neg hpq, heapS, if_neg hpq, heapS, if_pos rfl, HP.out]; rfl
  · rw [heapD, heapA, if_neg (by simp only [szS]; omega), heapS, if_pos rfl, heapS, if_pos rfl, heapS, if_neg n3, HQ.out]; rfl
  · intro k hk h1 h2
    rw [heapD, heapA, if_neg (by simp only [szS]; omega), heapS, if_neg h2, heapS, if_neg h2, heapS, if_neg h1]
  · simp only [szD, szA, szS]; omega
end Go.Proofs.YtgjgaeloehfhiaaGreatDoor
end
