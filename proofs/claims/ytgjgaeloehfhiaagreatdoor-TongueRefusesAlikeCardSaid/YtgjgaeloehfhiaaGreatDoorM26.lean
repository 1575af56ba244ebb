/- What a source that is read comes to: its declarations and statements; a fault has a line. -/
import Derived.Test.YtgjgaeloehfhiaaGreatDoorM12
import Derived.Test.YtgjgaeloehfhiaaGreatDoorM25
import Derived.Test.YtgjgaeloehfhiaaGreatDoorM04
import Derived.Test.YtgjgaeloehfhiaaGreatDoorM09
section
namespace Go.Proofs.YtgjgaeloehfhiaaGreatDoor
open Go.RowKit

theorem decl_ok {toks : List Tok} (hT : Ends toks) (hf : ∀ i, (toks.getD i default).fit) {p : Nat} (hp : p < toks.length) : (∀ d b, prDecl toks p = .ok (d, b) → b < toks.length ∧ p + 1 ≤ b ∧ DeclOK d) ∧ (∀ ln, prDecl toks p = .error ln → 1 ≤ ln) := by
  have hl := hT.line
  have hn := hT.next
  have hb := fun (i : Nat) (s : ByteArray) (hi : i < toks.length) (h : isB (toks.getD i default) s = true) => hT.isB hi h
  constructor
  · intro d b h
    simp only [prDecl] at h
    split at h
    · rename_i q1
      have h1 := hb _ _ hp q1
      split at h
      · rename_i q2
        have h2 := hn _ h1 (by omega) (by omega)
        split at h
        · rename_i q3
          have h3 := hb _ _ h2 q3
          split at h
          · rename_i q4
            have h4 := hn _ h3 (by omega) (by omega)
            split at h
            · rename_i q5
              have h5 := hb _ _ h4 q5
              split at h
              · rename_i q6
                have h6 := hb _ _ h5 q6
                cases h
                exact ⟨h6, by omega, hf _, (hf _).2⟩
              · cases h
            · cases h
          · cases h
        · split at h
          · rename_i q4
            have h4 := hb _ _ h2 q4
            cases h
            exact ⟨h4, by omega, hf _, by show (0 : Nat) < _; omega⟩
          · cases h
      · cases h
    · cases h
  · intro ln h
    simp only [prDecl] at h
    split at h
    · rename_i q1
      have h1 := hb _ _ hp q1
      split at h
      · rename_i q2
        have h2 := hn _ h1 (by omega) (by omega)
        split at h
        · rename_i q3
          have h3 := hb _ _ h2 q3
          split at h
          · rename_i q4
            have h4 := hn _ h3 (by omega) (by omega)
            split at h
            · rename_i q5
              have h5 := hb _ _ h4 q5
              split at h
              · cases h
              · cases h; exact hl _ h5
            · cases h; exact hl _ h4
          · cases h; exact hl _ h3
        · split at h
          · cases h
          · cases h; exact hl _ h2
      · cases h; exact hl _ h1
    · cases h; exact hl _ hp

theorem decls_ok {toks : List Tok} (hT : Ends toks) (hf : ∀ i, (toks.getD i default).fit) : ∀ (f p : Nat) (acc : List (Tok × Nat)), p < toks.length → toks.length < f + p → acc.length ≤ p → (∀ d ∈ acc, DeclOK d) →
    (∀ ds b, prDecls toks f p acc = .ok (ds, b) → b < toks.length ∧ ds.length ≤ b ∧ ∀ d ∈ ds, DeclOK d) ∧ (∀ ln, prDecls toks f p acc = .error ln → 1 ≤ ln)
  | 0, p, acc, hp, hn, _, _ => by omega
  | f + 1, p, acc, hp, hn, hal, hacc => by
    obtain ⟨d1, d2⟩ := decl_ok hT hf hp
    have hrec : ∀ d a, prDecl toks p = .ok (d, a) → _ := fun d a h => decls_ok hT hf f a (acc ++ [d]) (d1 d a h).1 (by have := (d1 d a h).2.1; omega) (by have := (d1 d a h).2.1; simp; omega) (fun x hx => by
      rcases List.mem_append.1 hx with hx | hx
      · exact hacc x hx
      · simp only [List.mem_singleton] at hx; rw [hx]; exact (d1 d a h).2.2)
    constructor
    · intro ds b h
      simp only [prDecls] at h
      split at h
      · split at h
        · cases h
        · rename_i d a q; exact (hrec d a q).1 ds b h
      · cases h; exact ⟨hp, hal, hacc⟩
    · intro ln h
      simp only [prDecls] at h
      split at h
      · split at h
        · rename_i n q; cases h; exact d2 _ q
        · rename_i d a q; exact (hrec d a q).2 ln h
      · cases h

theorem body_ok {toks : List Tok} (hT : Ends toks) (hf : ∀ i, (toks.getD i default).fit) : ∀ (f p : Nat) (acc : List Ast), p < toks.length → toks.length < f + p → (ofList acc).sz ≤ 3 * p → (∀ x ∈ acc, x.okS ∧ x.isStm) →
    (∀ l, prBody toks f p acc = .ok l → (ofList l).sz ≤ 3 * toks.length ∧ ∀ x ∈ l, x.okS ∧ x.isStm) ∧ (∀ ln, prBody toks f p acc = .error ln → 1 ≤ ln)
  | 0, p, acc, hp, hn, _, _ => by omega
  | f + 1, p, acc, hp, hn, hal, hacc => by
    have he := pr_ends hT (need toks.length p .stmt) .stmt p hp (fun h => by cases h)
    have hg := fun s a h => pr_good hf (need toks.length p .stmt) .stmt p s a h
    have hz := fun s a h => pr_size toks (need toks.length p .stmt) .stmt p s a h
    simp only [What.good, What.szOK] at hg hz
    have hrec : ∀ s a, pr toks (need toks.length p .stmt) .stmt p = .ok (s, a) → _ := fun s a h => body_ok hT hf f a (acc ++ [s]) (he.1 s a h) (by have := pr_least toks _ _ _ _ _ h; simp only [What.least] at this; omega) (by have := hz s a h; rw [sz_snoc]; omega) (fun x hx => by
      rcases List.mem_append.1 hx with hx | hx
      · exact hacc x hx
      · simp only [List.mem_singleton] at hx; rw [hx]; exact hg s a h)
    constructor
    · intro l h
      simp only [prBody] at h
      split at h
      · cases h; exact ⟨by omega, hacc⟩
      · split at h
        · cases h
        · rename_i s a q; exact (hrec s a q).1 l h
    · intro ln h
      simp only [prBody] at h
      split at h
      · cases h
      · split at h
        · rename_i n q; cases h; exact he.2 _ q (Nat.le_refl _)
        · rename_i s a q; exact (hrec s a q).2 ln h

theorem ofList_isL : ∀ l : List Ast, (ofList l).isL
  | [] => trivial
  | _ :: l => ofList_isL l

/-- What is known of a source that was read. -/
theorem readF_ok (s : ByteArray) (hs : s.size ≤ 90000) : (∀ ds l, readF (cutF s) = .ok (ds, l) → ds.length ≤ 100000 ∧ (∀ d ∈ ds, DeclOK d) ∧ (ofList l).okS ∧ (ofList l).isL ∧ (ofList l).sz ≤ 300000) ∧ (∀ ln, readF (cutF s) = .error ln → 1 ≤ ln) := by
  have hk := cutF_ok s
  have hT : Ends (cutF s) := Ends.of (fun t ht => (hk.all t ht).line0) hk.fin
  have hf : ∀ i, ((cutF s).getD i default).fit := fun i => by
    by_cases hi : i < (cutF s).length
    · have : (cutF s).getD i default = (cutF s)[i] := by simp [List.getD_eq_getElem?_getD, hi]
      rw [this]
      have ht := hk.all _ (List.getElem_mem hi)
      exact ⟨by have := ht.text; omega, ht.num⟩
    · rw [List.getD_eq_getElem?_getD, List.getElem?_eq_none (by omega)]
      exact ⟨by show (0 : Nat) ≤ _; omega, by show (0 : Nat) < _; omega⟩
  have hlen := hk.len
  obtain ⟨d1, d2⟩ := decls_ok hT hf ((cutF s).length + 1) 0 [] hk.ne (by omega) (by simp) (by simp)
  constructor
  · intro ds l h
    simp only [readF] at h
    split at h
    · cases h
    · rename_i ds' a q
      obtain ⟨e1, e2, e3⟩ := d1 _ _ q
      obtain ⟨b1, b2⟩ := body_ok hT hf ((cutF s).length + 1) a [] e1 (by omega) (by simp [ofList, Ast.sz]) (by simp)
      split at h
      · cases h
      · rename_i l' q2
        cases h
        obtain ⟨g1, g2⟩ := b1 _ q2
        exact ⟨by omega, e3, okS_ofList _ g2, ofList_isL _, by omega⟩
  · intro ln h
    simp only [readF] at h
    split at h
    · rename_i n q; cases h; exact d2 _ q
    · rename_i ds' a q
      obtain ⟨e1, e2, e3⟩ := d1 _ _ q
      obtain ⟨b1, b2⟩ := body_ok hT hf ((cutF s).length + 1) a [] e1 (by omega) (by simp [ofList, Ast.sz]) (by simp)
      split at h
      · rename_i n q2; cases h; exact b2 _ q2
      · cases h
end Go.Proofs.YtgjgaeloehfhiaaGreatDoor
end
section
/- The generator: literals, signs, bounds. -/
namespace Go.Proofs.YtgjgaeloehfhiaaGreatDoor
open Go.RowKit

set_option maxRecDepth 100000 in
set_option maxHeartbeats 4000000 in
theorem literal_any {base mb ub : Nat} {bs : List Nat} {S : GSt} (n : Nat) (hn : n < 4294967296) (w : World) (h : MkAt w base mb ub bs S) (hw : S.wf) (hlen : S.out.length + 2 ≤ 100000000) :
    Calls Tryz.prog 164 #[.pointer (some ⟨mb, 0, none⟩), .int .u32 n] w (GenC w base mb ub bs (litF n S)) := by
  have HS : Hid (litF n S = if 32767 < n then (S.put 2 4 0 (wrap64 (IntKind.i16.wrap n))).put 3 4 0 ((n : Int) / 65536) else S.put 2 4 0 (wrap64 (IntKind.i16.wrap n))) := Lib.hid rfl
  have HM0 := Lib.hid h
  have HF0 := Lib.hid (GFr.refl base w)
  have HG0 := Lib.hid (GLe.refl hw)
  have HB0 := Lib.hid (List.prefix_refl bs)
  have HL0 := Lib.hid h.len
  clear h
  go_enter Tryz.func164, Tryz.ntmps164
  go_wp2_with fail
  refine (put_any 2 4 0 (wrap64 (IntKind.i16.wrap n)) _ HM0.out (by have := HG0.out.hi; omega)).mono ?_
  rintro e w1 ⟨rfl, h1, h2⟩
  have HM1 := Lib.hid h1
  have HF1 := Lib.hid (HF0.out.trans h2)
  have HG1 := Lib.hid (HG0.out.trans (gle_put HG0.out.wf 2 4 0 (wrap64 (IntKind.i16.wrap n))))
  clear h1 h2
  by_cases hg : 32767 < n
  · go_wp2_with fail
    refine (put_any 3 4 0 ((n : Int) / 65536) _ HM1.out (by have := HG1.out.hi; omega)).mono ?_
    rintro e w2 ⟨rfl, h1, h2⟩
    have HM2 := Lib.hid h1
    have HF2 := Lib.hid (HF1.out.trans h2)
    have HG2 := Lib.hid (HG1.out.trans (gle_put HG1.out.wf 3 4 0 ((n : Int) / 65536)))
    clear h1 h2
    go_wp2_with fail
    go_end0
    rw [HS.out, if_pos hg]
    exact ⟨rfl, _, HB0.out, HM2.out, HF2.out⟩
  · go_wp2_with fail
    go_end0
    rw [HS.out, if_neg hg]
    exact ⟨rfl, _, HB0.out, HM1.out, HF1.out⟩

set_option maxRecDepth 100000 in
set_option maxHeartbeats 4000000 in
theorem signed_any {base mb ub : Nat} {bs : List Nat} {S : GSt} (s : ByteArray) (w : World) (h : MkAt w base mb ub bs S) (hw : S.wf) (hlen : S.out.length + 3 ≤ 100000000) :
    Calls Tryz.prog 165 #[.pointer (some ⟨mb, 0, none⟩), .string s] w (GenC w base mb ub bs (signedF s.toList S)) := by
  have HS : Hid (signedF s.toList S = if s.toList = [45] then ((S.put 4 5 7 0).put 6 5 4 0).put 4 4 5 0 else if s.toList = [126] then (S.put 2 5 0 (-1)).put 12 4 5 0 else if s.toList = [33] then S.put 17 4 7 0 else S) := Lib.hid rfl
  have ways : ((s.toList == [45]) = true ∧ Hid (signedF s.toList S = ((S.put 4 5 7 0).put 6 5 4 0).put 4 4 5 0)) ∨ ((s.toList == [45]) = false ∧ (s.toList == [126]) = true ∧ Hid (signedF s.toList S = (S.put 2 5 0 (-1)).put 12 4 5 0)) ∨
      ((s.toList == [45]) = false ∧ (s.toList == [126]) = false ∧ (s.toList == [33]) = true ∧ Hid (signedF s.toList S = S.put 17 4 7 0)) ∨ ((s.toList == [45]) = false ∧ (s.toList == [126]) = false ∧ (s.toList == [33]) = false ∧ Hid (signedF s.toList S = S)) := by
    have h0 := HS.out
    by_cases h1 : s.toList = [45]
    · rw [if_pos h1] at h0; exact .inl ⟨by simpa using h1, h0⟩
    rw [if_neg h1] at h0
    have h1 : (s.toList == [45]) = false := by simpa using h1
    by_cases h2 : s.toList = [126]
    · rw [if_pos h2] at h0; exact .inr (.inl ⟨h1, by simpa using h2, h0⟩)
    rw [if_neg h2] at h0
    have h2 : (s.toList == [126]) = false := by simpa using h2
    by_cases h3 : s.toList = [33]
    · rw [if_pos h3] at h0; exact .inr (.inr (.inl ⟨h1, h2, by simpa using h3, h0⟩))
    rw [if_neg h3] at h0
    exact .inr (.inr (.inr ⟨h1, h2, by simpa using h3, h0⟩))
  clear HS
  have HM0 := Lib.hid h
  have HF0 := Lib.hid (GFr.refl base w)
  have HG0 := Lib.hid (GLe.refl hw)
  have HB0 := Lib.hid (List.prefix_refl bs)
  have HL0 := Lib.hid h.len
  clear h
  go_enter Tryz.func165, Tryz.ntmps165
  rcases ways with ⟨q1, HS⟩ | ⟨q1, q2, HS⟩ | ⟨q1, q2, q3, HS⟩ | ⟨q1, q2, q3, HS⟩
  · go_wp2_with fail
    refine (put_any 4 5 7 0 _ HM0.out (by have := HG0.out.hi; omega)).mono ?_
    rintro e w1 ⟨rfl, h1, h2⟩
    have HM1 := Lib.hid h1
    have HF1 := Lib.hid (HF0.out.trans h2)
    have HG1 := Lib.hid (HG0.out.trans (gle_put HG0.out.wf 4 5 7 0))
    clear h1 h2
    go_wp2_with fail
    refine (put_any 6 5 4 0 _ HM1.out (by have := HG1.out.hi; omega)).mono ?_
    rintro e w2 ⟨rfl, h1, h2⟩
    have HM2 := Lib.hid h1
    have HF2 := Lib.hid (HF1.out.trans h2)
    have HG2 := Lib.hid (HG1.out.trans (gle_put HG1.out.wf 6 5 4 0))
    clear h1 h2
    go_wp2_with fail
    refine (put_any 4 4 5 0 _ HM2.out (by have := HG2.out.hi; omega)).mono ?_
    rintro e w3 ⟨rfl, h1, h2⟩
    have HM3 := Lib.hid h1
    have HF3 := Lib.hid (HF2.out.trans h2)
    have HG3 := Lib.hid (HG2.out.trans (gle_put HG2.out.wf 4 4 5 0))
    clear h1 h2
    go_wp2_with fail
    go_end0
    rw [HS.out]
    exact ⟨rfl, _, HB0.out, HM3.out, HF3.out⟩
  · go_wp2_with fail
    refine (put_any 2 5 0 (-1) _ HM0.out (by have := HG0.out.hi; omega)).mono ?_
    rintro e w1 ⟨rfl, h1, h2⟩
    have HM1 := Lib.hid h1
    have HF1 := Lib.hid (HF0.out.trans h2)
    have HG1 := Lib.hid (HG0.out.trans (gle_put HG0.out.wf 2 5 0 (-1)))
    clear h1 h2
    go_wp2_with fail
    refine (put_any 12 4 5 0 _ HM1.out (by have := HG1.out.hi; omega)).mono ?_
    rintro e w2 ⟨rfl, h1, h2⟩
    have HM2 := Lib.hid h1
    have HF2 := Lib.hid (HF1.out.trans h2)
    have HG2 := Lib.hid (HG1.out.trans (gle_put HG1.out.wf 12 4 5 0))
    clear h1 h2
    go_wp2_with fail
    go_end0
    rw [HS.out]
    exact ⟨rfl, _, HB0.out, HM2.out, HF2.out⟩
  · go_wp2_with fail
    refine (put_any 17 4 7 0 _ HM0.out (by have := HG0.out.hi; omega)).mono ?_
    rintro e w1 ⟨rfl, h1, h2⟩
    have HM1 := Lib.hid h1
    have HF1 := Lib.hid (HF0.out.trans h2)
    have HG1 := Lib.hid (HG0.out.trans (gle_put HG0.out.wf 17 4 7 0))
    clear h1 h2
    go_wp2_with fail
    go_end0
    rw [HS.out]
    exact ⟨rfl, _, HB0.out, HM1.out, HF1.out⟩
  · go_wp2_with fail
    go_end0
    rw [HS.out]
    exact ⟨rfl, _, HB0.out, HM0.out, HF0.out⟩

set_option maxRecDepth 100000 in
set_option maxHeartbeats 4000000 in
theorem bound_any {base mb ub : Nat} {bs : List Nat} {S : GSt} (a z : Int) (hz0 : 0 ≤ z) (hz1 : z ≤ 4294967295) (w : World) (h : MkAt w base mb ub bs S) (hw : S.wf) (hb : base ≤ w.heap.size) (hlen : S.out.length + 4 ≤ 100000000) :
    Calls Tryz.prog 141 #[.pointer (some ⟨mb, 0, none⟩), .agg #[.int .i64 a, .int .u32 z]] w (GenC w base mb ub bs (bndF z S)) := by
  have HTL := Lib.hid (show S.trap < bs.length by rw [h.len]; exact hw.trap)
  have HTI := Lib.hid hw.trap
  obtain ⟨lb, hlb⟩ : ∃ lb, bs.getD S.trap 0 = lb := ⟨_, rfl⟩
  have HLB := Lib.hid hlb
  clear hlb
  have HM0 := Lib.hid (h.ext ((Ext.refl w).alloc (.cells #[.int .i64 a, .int .u32 z] 82)))
  have HF0 := Lib.hid (GFr.of_ext ((Ext.refl w).alloc (.cells #[.int .i64 a, .int .u32 z] 82)) hb)
  have HG0 := Lib.hid (GLe.refl hw)
  have HB0 := Lib.hid (List.prefix_refl bs)
  have HL0 := Lib.hid h.len
  clear h
  go_enter Tryz.func141, Tryz.ntmps141
  go_wp2_with fail
  refine (put_any 2 5 0 z _ HM0.out (by have := HG0.out.hi; omega)).mono ?_
  rintro e w1 ⟨rfl, h1, h2⟩
  have HM1 := Lib.hid h1
  have HF1 := Lib.hid (HF0.out.trans h2)
  have HG1 := Lib.hid (HG0.out.trans (gle_put HG0.out.wf 2 5 0 z))
  clear h1 h2
  go_wp2_with fail
  refine (put_any 4 6 4 0 _ HM1.out (by have := HG1.out.hi; omega)).mono ?_
  rintro e w2 ⟨rfl, h1, h2⟩
  have HM2 := Lib.hid h1
  have HF2 := Lib.hid (HF1.out.trans h2)
  have HG2 := Lib.hid (HG1.out.trans (gle_put HG1.out.wf 4 6 4 0))
  clear h1 h2
  go_wp2_with fail
  refine (put_any 15 6 5 0 _ HM2.out (by have := HG2.out.hi; omega)).mono ?_
  rintro e w3 ⟨rfl, h1, h2⟩
  have HM3 := Lib.hid h1
  have HF3 := Lib.hid (HF2.out.trans h2)
  have HG3 := Lib.hid (HG2.out.trans (gle_put HG2.out.wf 15 6 5 0))
  clear h1 h2
  obtain ⟨tc3, tl3⟩ := HM3.out.trapCell HB0.out HG3.out.trap HTL.out HLB.out
  have HT3 := Lib.hid tl3
  clear tl3
  go_wp2_with fail
  refine (jump_p 22 6 S.trap _ lb HT3.out HM3.out HTI.out HG3.out.wf (by have := HG3.out.hi; omega)).mono ?_
  rintro e w4 ⟨rfl, h1, h2⟩
  have HM4 := Lib.hid h1
  have HF4 := Lib.hid (HF3.out.trans h2)
  have HG4 := Lib.hid (HG3.out.trans (gle_jump HG3.out.wf 22 6 S.trap))
  clear h1 h2
  clear tc3
  go_wp2_with fail
  go_end0
  exact ⟨rfl, _, HB0.out, HM4.out, HF4.out⟩

end Go.Proofs.YtgjgaeloehfhiaaGreatDoor
end
section
/- The generator: short operators, operators of two sides, expressions. -/
namespace Go.Proofs.YtgjgaeloehfhiaaGreatDoor
open Go.RowKit

/-- What is claimed of an expression. -/
def ExpC (base mb ub N : Nat) (L : Places) (e : Ast) : Prop := ∀ (d : Nat) (v : Value) (w : World) (bs : List Nat) (S : GSt) (lo hi : Nat), e.okE → AstAt w lo hi e v → hi ≤ base → GEnv w base ub N L → MkAt w base mb ub bs S → S.wf →
  S.out.length + 8 * e.sz ≤ 100000000 → d + e.sz ≤ 1000000 → Calls Tryz.prog 140 #[.pointer (some ⟨mb, 0, none⟩), v, .int .i64 d] w (GenC w base mb ub bs (genE L e d S))

set_option maxRecDepth 100000 in
set_option maxHeartbeats 4000000 in
theorem short_any {base mb ub N lo hi : Nat} {L : Places} {bs : List Nat} {S : GSt} (l r : Ast) (hl : ExpC base mb ub N L l) (hr : ExpC base mb ub N L r) (eb d : Nat) (op value : Int) (hv0 : 0 ≤ value) (hv1 : value ≤ 1) (vl vr : Value) (w : World) (heb : eb < base)
    (c6 : w.cell? ⟨eb, 6, none⟩ = some vl) (c7 : w.cell? ⟨eb, 7, none⟩ = some vr) (hol : l.okE) (hor : r.okE) (hal : AstAt w lo hi l vl) (har : AstAt w lo hi r vr) (hhi : hi ≤ base) (henv : GEnv w base ub N L) (h : MkAt w base mb ub bs S) (hw : S.wf)
    (hlen : S.out.length + 8 * l.sz + 8 * r.sz + 5 ≤ 100000000) (hd : d + l.sz + r.sz ≤ 1000000) :
    Calls Tryz.prog 179 #[.pointer (some ⟨mb, 0, none⟩), .pointer (some ⟨eb, 0, none⟩), .int .i64 d, .int .i64 op, .int .i64 value] w (GenC w base mb ub bs (shortF (genE L l d) (genE L r d) op value S)) := by
  obtain ⟨a1, a2, a3⟩ := new2_at (a := w.heap.size) (b := w.heap.size + 1) h.len
  have HNA := Lib.hid a1
  have HNB := Lib.hid a2
  have HNL := Lib.hid a3
  have HENV := Lib.hid henv
  have HAL := Lib.hid hal
  have HAR := Lib.hid har
  have HEL := Lib.hid hl
  have HER := Lib.hid hr
  have HOL := Lib.hid hol
  have HOR := Lib.hid hor
  have HC6 := Lib.hid c6
  have HC7 := Lib.hid c7
  have hlen2 : S.newLab.newLab.out.length + 8 * l.sz + 8 * r.sz + 5 ≤ 100000000 := hlen
  have hnl : S.newLab.newLab.labs.length = S.labs.length + 2 := by rw [newLab_len, newLab_len]
  have HN0 : Hid (S.labs.length < S.newLab.newLab.labs.length) := by show _ < _; omega
  have HN1 : Hid (S.labs.length + 1 < S.newLab.newLab.labs.length) := by show _ < _; omega
  have HM0 := Lib.hid (h.new2 hw henv.hb)
  have HF0 := Lib.hid (GFr.of_ext (((Ext.refl w).alloc (.cells #[.int .i64 0, .slice none 0 0] 157)).alloc (.cells #[.int .i64 0, .slice none 0 0] 157)) henv.hb)
  have HG0 := Lib.hid (GLe.refl ((gle_new (gle_new hw).wf).wf))
  have HPX := Lib.hid (List.prefix_append bs [w.heap.size, w.heap.size + 1])
  clear a1 a2 a3 henv hal har hl hr hol hor c6 c7 h hlen hnl
  obtain ⟨bs0, hbs0⟩ : ∃ b, b = bs ++ [w.heap.size, w.heap.size + 1] := ⟨_, rfl⟩
  rw [← hbs0] at HM0 HNA HNB HNL HPX
  have HB0 := Lib.hid (List.prefix_refl bs0)
  have HL0 : Hid (S.labs.length < bs0.length) := by show _ < _; have := HNL.out; omega
  have HL1 : Hid (S.labs.length + 1 < bs0.length) := by show _ < _; have := HNL.out; omega
  clear hbs0
  obtain ⟨S2, hS2⟩ : ∃ x, x = S.newLab.newLab := ⟨_, rfl⟩
  obtain ⟨n, hn⟩ : ∃ x, x = S.labs.length := ⟨_, rfl⟩
  rw [← hS2] at HM0 HG0 hlen2 HN0 HN1
  rw [← hn] at HNA HNB HN0 HN1 HL0 HL1
  have HRES : Hid (shortF (genE L l d) (genE L r d) op value S = ((((((((genE L r d ((genE L l d S2).jump op 4 n)).jump op 4 n).put 2 4 0 value).jump 21 0 (n + 1)).land n).put 2 4 0 (1 - value)).land (n + 1)).settle n).settle (n + 1)) := by
    show _ = _
    rw [hS2, hn]; rfl
  have HR2 := HRES
  generalize shortF (genE L l d) (genE L r d) op value S = RES at *
  clear hS2 hn HRES
  generalize hna : w.heap.size = na at HNA HNB HM0 HF0
  subst hna
  go_enter Tryz.func179, Tryz.ntmps179
  have k6 := (HF0.out.below.cell (p := ⟨eb, 6, none⟩) heb).trans HC6.out
  go_wp2_with fail
  clear k6
  refine (HEL.out d vl _ bs0 _ lo hi HOL.out (ast_below HF0.out.below hhi HAL.out) hhi (HENV.out.keep HF0.out.below) HM0.out HG0.out.wf (by have := HG0.out.hi; omega) (by omega)).mono ?_
  rintro e w1 ⟨rfl, bs1, hpx, h1, h2⟩
  have HB1 := Lib.hid (HB0.out.trans hpx)
  clear hpx
  have HM1 := Lib.hid h1
  have HF1 := Lib.hid (HF0.out.trans h2)
  have HG1 := Lib.hid (HG0.out.trans (gle_genE L l d _ HG0.out.wf))
  clear h1 h2
  go_wp2_with fail
  refine (jump_p op 4 n _ _ ((pre_getD HB1.out HL0.out).trans HNA.out) HM1.out (Nat.lt_of_lt_of_le HN0.out HG1.out.labs) HG1.out.wf (by have := HG1.out.hi; omega)).mono ?_
  rintro e w2 ⟨rfl, h1, h2⟩
  have HM2 := Lib.hid h1
  have HF2 := Lib.hid (HF1.out.trans h2)
  have HG2 := Lib.hid (HG1.out.trans (gle_jump HG1.out.wf op 4 n))
  clear h1 h2
  have k7_2 : w2.cell? ⟨eb, 7, none⟩ = some (vr) := (HF2.out.below.cell (p := ⟨eb, 7, none⟩) heb).trans HC7.out
  go_wp2_with fail
  refine (HER.out d vr _ bs1 _ lo hi HOR.out (ast_below HF2.out.below hhi HAR.out) hhi (HENV.out.keep HF2.out.below) HM2.out HG2.out.wf (by have := HG2.out.hi; omega) (by omega)).mono ?_
  rintro e w3 ⟨rfl, bs2, hpx, h1, h2⟩
  have HB2 := Lib.hid (HB1.out.trans hpx)
  clear hpx
  have HM3 := Lib.hid h1
  have HF3 := Lib.hid (HF2.out.trans h2)
  have HG3 := Lib.hid (HG2.out.trans (gle_genE L r d _ HG2.out.wf))
  clear h1 h2
  clear k7_2
  go_wp2_with fail
  refine (jump_p op 4 n _ _ ((pre_getD HB2.out HL0.out).trans HNA.out) HM3.out (Nat.lt_of_lt_of_le HN0.out HG3.out.labs) HG3.out.wf (by have := HG3.out.hi; omega)).mono ?_
  rintro e w4 ⟨rfl, h1, h2⟩
  have HM4 := Lib.hid h1
  have HF4 := Lib.hid (HF3.out.trans h2)
  have HG4 := Lib.hid (HG3.out.trans (gle_jump HG3.out.wf op 4 n))
  clear h1 h2
  go_wp2_with fail
  refine (put_any 2 4 0 value _ HM4.out (by have := HG4.out.hi; omega)).mono ?_
  rintro e w5 ⟨rfl, h1, h2⟩
  have HM5 := Lib.hid h1
  have HF5 := Lib.hid (HF4.out.trans h2)
  have HG5 := Lib.hid (HG4.out.trans (gle_put HG4.out.wf 2 4 0 value))
  clear h1 h2
  go_wp2_with fail
  refine (jump_p 21 0 (n + 1) _ _ ((pre_getD HB2.out HL1.out).trans HNB.out) HM5.out (Nat.lt_of_lt_of_le HN1.out HG5.out.labs) HG5.out.wf (by have := HG5.out.hi; omega)).mono ?_
  rintro e w6 ⟨rfl, h1, h2⟩
  have HM6 := Lib.hid h1
  have HF6 := Lib.hid (HF5.out.trans h2)
  have HG6 := Lib.hid (HG5.out.trans (gle_jump HG5.out.wf 21 0 (n + 1)))
  clear h1 h2
  go_wp2_with fail
  refine (land_p n _ _ ((pre_getD HB2.out HL0.out).trans HNA.out) HM6.out (Nat.lt_of_lt_of_le HN0.out HG6.out.labs) (by have := HG6.out.hi; omega)).mono ?_
  rintro e w7 ⟨rfl, h1, h2⟩
  have HM7 := Lib.hid h1
  have HF7 := Lib.hid (HF6.out.trans h2)
  have HG7 := Lib.hid (HG6.out.trans (gle_land HG6.out.wf n))
  clear h1 h2
  go_wp2_with fail
  refine (put_any 2 4 0 (1 - value) _ HM7.out (by have := HG7.out.hi; omega)).mono ?_
  rintro e w8 ⟨rfl, h1, h2⟩
  have HM8 := Lib.hid h1
  have HF8 := Lib.hid (HF7.out.trans h2)
  have HG8 := Lib.hid (HG7.out.trans (gle_put HG7.out.wf 2 4 0 (1 - value)))
  clear h1 h2
  go_wp2_with fail
  refine (land_p (n + 1) _ _ ((pre_getD HB2.out HL1.out).trans HNB.out) HM8.out (Nat.lt_of_lt_of_le HN1.out HG8.out.labs) (by have := HG8.out.hi; omega)).mono ?_
  rintro e w9 ⟨rfl, h1, h2⟩
  have HM9 := Lib.hid h1
  have HF9 := Lib.hid (HF8.out.trans h2)
  have HG9 := Lib.hid (HG8.out.trans (gle_land HG8.out.wf (n + 1)))
  clear h1 h2
  go_wp2_with fail
  refine (settle_p n _ _ ((pre_getD HB2.out HL0.out).trans HNA.out) HM9.out (Nat.lt_of_lt_of_le HN0.out HG9.out.labs) HG9.out.wf (by have := HG9.out.hi; omega)).mono ?_
  rintro e w10 ⟨rfl, h1, h2⟩
  have HM10 := Lib.hid h1
  have HF10 := Lib.hid (HF9.out.trans h2)
  have HG10 := Lib.hid (HG9.out.trans (gle_settle HG9.out.wf n))
  clear h1 h2
  go_wp2_with fail
  refine (settle_p (n + 1) _ _ ((pre_getD HB2.out HL1.out).trans HNB.out) HM10.out (Nat.lt_of_lt_of_le HN1.out HG10.out.labs) HG10.out.wf (by have := HG10.out.hi; omega)).mono ?_
  rintro e w11 ⟨rfl, h1, h2⟩
  have HM11 := Lib.hid h1
  have HF11 := Lib.hid (HF10.out.trans h2)
  have HG11 := Lib.hid (HG10.out.trans (gle_settle HG10.out.wf (n + 1)))
  clear h1 h2
  go_wp2_with fail
  go_end0
  rw [HR2.out]
  exact ⟨rfl, _, HPX.out.trans HB2.out, HM11.out, HF11.out⟩

end Go.Proofs.YtgjgaeloehfhiaaGreatDoor
end
