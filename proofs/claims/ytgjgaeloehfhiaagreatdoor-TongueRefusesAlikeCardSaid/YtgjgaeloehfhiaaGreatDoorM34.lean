/- The generator's instructions may all be written. -/
import Derived.Test.YtgjgaeloehfhiaaGreatDoorM33
section
namespace Go.Proofs.YtgjgaeloehfhiaaGreatDoor
open Go.RowKit

theorem good_of (op a b : Nat) (imm : Int) (h : InsOK op a b imm) : Ins.good ⟨op, a, b, imm⟩ := ⟨op, a, b, rfl, rfl, rfl, h⟩
/-- Registers and number in order. -/
def rowB (op a b : Nat) : Bool := decide (0 < op) && decide (op < 27) && (decide (a = 0) || ((isaRow op).2.1 && decide (a < 8))) && (decide (b = 0) || ((isaRow op).2.2.1 && decide (b < 8)))
theorem insOK_of {op a b : Nat} {imm : Int} (h : rowB op a b = true) (hi : (isaRow op).2.2.2.1 = 0 ∧ imm = 0 ∨ (isaRow op).2.2.2.1 = 1 ∧ 0 ≤ imm ∧ imm ≤ 65535 ∨ (isaRow op).2.2.2.1 = 2 ∧ -32768 ≤ imm ∧ imm ≤ 32767) : InsOK op a b imm := by
  simp only [rowB, Bool.and_eq_true, decide_eq_true_eq, Bool.or_eq_true] at h
  obtain ⟨⟨⟨h1, h2⟩, h3⟩, h4⟩ := h
  exact ⟨h1, h2, h3, h4, hi⟩
theorem good0 (op a b : Nat) (h : rowB op a b = true) (hk : (isaRow op).2.2.2.1 = 0) : Ins.good ⟨op, a, b, 0⟩ := good_of _ _ _ _ (insOK_of h (.inl ⟨hk, rfl⟩))
theorem good1 (op a b : Nat) (imm : Int) (h : rowB op a b = true) (hk : (isaRow op).2.2.2.1 = 1) (h0 : 0 ≤ imm) (h1 : imm ≤ 65535) : Ins.good ⟨op, a, b, imm⟩ := good_of _ _ _ _ (insOK_of h (.inr (.inl ⟨hk, h0, h1⟩)))
theorem good2 (op a b : Nat) (imm : Int) (h : rowB op a b = true) (hk : (isaRow op).2.2.2.1 = 2) (h0 : -32768 ≤ imm) (h1 : imm ≤ 32767) : Ins.good ⟨op, a, b, imm⟩ := good_of _ _ _ _ (insOK_of h (.inr (.inr ⟨hk, h0, h1⟩)))

/-- The instructions that are out may be written; jumps are jumps. -/
structure GSt.fine (S : GSt) : Prop where
  good : ∀ i ∈ S.out, i.good
  jmp : ∀ k, k < S.labs.length → ∀ j ∈ (S.labs.getD k default).2, 21 ≤ (S.out.getD j default).op ∧ (S.out.getD j default).op ≤ 23

theorem getD_app {α : Type} (l m : List α) (j : Nat) (d : α) (h : j < l.length) : (l ++ m).getD j d = l.getD j d := by simp [List.getD_eq_getElem?_getD, List.getElem?_append_left h]

theorem fine_put {S : GSt} (hw : S.wf) (h : S.fine) (op a b : Nat) (imm : Int) (hg : Ins.good ⟨op, a, b, imm⟩) : (S.put op a b imm).fine := by
  refine ⟨fun i hi => ?_, fun k hk j hj => ?_⟩
  · rcases List.mem_append.1 hi with hi | hi
    · exact h.good i hi
    · simp only [List.mem_singleton] at hi; rw [hi]; exact hg
  · have := (hw.ok k hk).2.2 j hj
    show 21 ≤ ((S.out ++ [_]).getD j default).op ∧ ((S.out ++ [_]).getD j default).op ≤ 23
    rw [getD_app _ _ _ _ this]
    exact h.jmp k hk j hj
theorem fine_jump {S : GSt} (hw : S.wf) (h : S.fine) (op a i : Nat) (h21 : 21 ≤ op) (h23 : op ≤ 23) (hr : rowB op a 0 = true) (hk : (isaRow op).2.2.2.1 = 2) : (S.jump op a i).fine := by
  have hg := good2 op a 0 0 hr hk (by omega) (by omega)
  refine ⟨fun x hx => ?_, fun k hk j hj => ?_⟩
  · rcases List.mem_append.1 hx with hx | hx
    · exact h.good x hx
    · simp only [List.mem_singleton] at hx; rw [hx]; exact hg
  · show (21 : Int) ≤ ((S.out ++ [(⟨(op : Int), (a : Int), 0, 0⟩ : Ins)]).getD j default).op ∧ ((S.out ++ [(⟨(op : Int), (a : Int), 0, 0⟩ : Ins)]).getD j default).op ≤ 23
    have hk2 : k < S.labs.length := by simpa [GSt.jump, GSt.put, GSt.mark] using hk
    simp only [GSt.jump, GSt.put, GSt.mark] at hj
    have old : ∀ j ∈ (S.labs.getD k default).2, (21 : Int) ≤ ((S.out ++ [(⟨(op : Int), (a : Int), 0, 0⟩ : Ins)]).getD j default).op ∧ ((S.out ++ [(⟨(op : Int), (a : Int), 0, 0⟩ : Ins)]).getD j default).op ≤ 23 := fun j hj => by
      rw [getD_app _ _ _ _ ((hw.ok k hk2).2.2 j hj)]
      exact h.jmp k hk2 j hj
    by_cases hik : i = k
    · subst hik
      rw [getD_set_eq _ _ _ _ hk2] at hj
      rcases List.mem_append.1 hj with hj | hj
      · exact old j hj
      · simp only [List.mem_singleton] at hj
        subst hj
        rw [List.getD_eq_getElem?_getD, List.getElem?_append_right (Nat.le_refl _)]
        simp only [Nat.sub_self, List.getElem?_cons_zero, Option.getD_some]
        omega
    · rw [getD_set_ne' _ _ _ _ _ hik] at hj
      exact old j hj
theorem fine_land {S : GSt} (h : S.fine) (i : Nat) : (S.land i).fine := by
  refine ⟨h.good, fun k hk j hj => ?_⟩
  have hk2 : k < S.labs.length := by simpa [GSt.land] using hk
  simp only [GSt.land] at hj
  by_cases hik : i = k
  · subst hik
    rw [getD_set_eq _ _ _ _ hk2] at hj
    exact h.jmp i hk2 j hj
  · rw [getD_set_ne' _ _ _ _ _ hik] at hj
    exact h.jmp k hk2 j hj
theorem fine_new {S : GSt} (h : S.fine) : S.newLab.fine := by
  refine ⟨h.good, fun k hk j hj => ?_⟩
  simp only [GSt.newLab] at hj
  rw [getD_snoc] at hj
  split at hj
  · rename_i hk2; exact h.jmp k hk2 j hj
  · split at hj <;> cases hj

/-- Jumps are given their distances. -/
theorem fine_settleL (at_ : Nat) : ∀ (js : List Nat) (o : List Ins), o.length ≤ 30000 → at_ ≤ o.length → (∀ i ∈ o, i.good) → (∀ j ∈ js, j < o.length ∧ 21 ≤ (o.getD j default).op ∧ (o.getD j default).op ≤ 23) →
    (∀ i ∈ settleL at_ js o, i.good) ∧ ∀ j, ((settleL at_ js o).getD j default).op = (o.getD j default).op
  | [], o, _, _, h, _ => ⟨h, fun _ => rfl⟩
  | j :: js, o, hl, ha, hg, hj => by
    obtain ⟨j1, j2, j3⟩ := hj j (by simp)
    have hget : o.getD j default = o[j] := by simp [List.getD_eq_getElem?_getD, j1]
    obtain ⟨op, a, b, e1, e2, e3, hok⟩ := hg (o.getD j default) (by rw [hget]; exact List.getElem_mem j1)
    have hkind : (isaRow op).2.2.2.1 = 2 := by
      have : op = 21 ∨ op = 22 ∨ op = 23 := by omega
      rcases this with rfl | rfl | rfl <;> rfl
    have hnew : Ins.good { o.getD j default with imm := (at_ : Int) - j - 1 } := by
      refine ⟨op, a, b, e1, e2, e3, ⟨hok.op0, hok.op1, hok.a, hok.b, .inr (.inr ⟨hkind, ?_, ?_⟩)⟩⟩
      · show -32768 ≤ (at_ : Int) - j - 1; omega
      · show (at_ : Int) - j - 1 ≤ 32767; omega
    have hop : ∀ k, ((o.set j { o.getD j default with imm := (at_ : Int) - j - 1 }).getD k default).op = (o.getD k default).op := fun k => by
      by_cases hk : j = k
      · subst hk; rw [getD_set_eq _ _ _ _ j1]
      · rw [getD_set_ne' _ _ _ _ _ hk]
    have ih := fine_settleL at_ js (o.set j { o.getD j default with imm := (at_ : Int) - j - 1 }) (by simpa using hl) (by simpa using ha) (fun x hx => by
      rcases List.mem_or_eq_of_mem_set hx with hx | hx
      · exact hg x hx
      · rw [hx]; exact hnew) (fun k hk => by
      rw [hop k, List.length_set]
      exact hj k (by simp [hk]))
    exact ⟨ih.1, fun k => (ih.2 k).trans (hop k)⟩
theorem fine_settle {S : GSt} (hw : S.wf) (h : S.fine) (i : Nat) (hl : S.out.length ≤ 30000) (hi : i < S.labs.length) : (S.settle i).fine := by
  obtain ⟨h1, h2, h3⟩ := hw.ok i hi
  obtain ⟨g1, g2⟩ := fine_settleL (S.labs.getD i default).1 (S.labs.getD i default).2 S.out hl h1 h.good (fun j hj => ⟨h3 j hj, h.jmp i hi j hj⟩)
  refine ⟨g1, fun k hk j hj => ?_⟩
  show 21 ≤ ((settleL _ _ S.out).getD j default).op ∧ ((settleL _ _ S.out).getD j default).op ≤ 23
  rw [g2 j]
  exact h.jmp k hk j hj

/-- Places within the data. -/
def LRange (L : Places) : Prop := ∀ key p, L key = some p → 384 ≤ p.1 ∧ 0 ≤ p.2 ∧ p.1 + max 1 p.2 ≤ 480
theorem LRange.place {L : Places} (h : LRange L) (t : Tok) : 0 ≤ (placeOf L t).1 ∧ (placeOf L t).1 ≤ 480 ∧ 0 ≤ (placeOf L t).2 ∧ (placeOf L t).2 ≤ 96 := by
  unfold placeOf
  cases hk : L t.text.data.toList with
  | none => simp
  | some p =>
    have := h _ _ hk
    simp only [Option.getD_some]
    omega

theorem fine_lit {S : GSt} (hw : S.wf) (h : S.fine) (n : Nat) (hn : n < 4294967296) : (litF n S).fine := by
  simp only [litF]
  have hw16 : -32768 ≤ wrap64 (IntKind.i16.wrap (n : Int)) ∧ wrap64 (IntKind.i16.wrap (n : Int)) ≤ 32767 := by
    have h16 : IntKind.i16.wrap (n : Int) = if (32768 : Int) ≤ (n : Int) % 65536 then (n : Int) % 65536 - 65536 else (n : Int) % 65536 := by simp [IntKind.wrap, IntKind.bits, IntKind.signed]
    rw [h16]
    simp only [wrap64]
    split <;> omega
  have h1 := fine_put hw h 2 4 0 _ (good2 2 4 0 _ (by decide) (by decide) hw16.1 hw16.2)
  split
  · exact fine_put (gle_put hw 2 4 0 _).wf h1 3 4 0 _ (good1 3 4 0 _ (by decide) (by decide) (by omega) (by omega))
  · exact h1
theorem fine_bnd {S : GSt} (hw : S.wf) (h : S.fine) (z : Int) (h0 : 0 ≤ z) (h1 : z ≤ 96) : (bndF z S).fine := by
  have f1 := fine_put hw h 2 5 0 z (good2 2 5 0 _ (by decide) (by decide) (by omega) (by omega))
  have w1 := (gle_put hw 2 5 0 z).wf
  have f2 := fine_put w1 f1 4 6 4 0 (good0 4 6 4 (by decide) (by decide))
  have w2 := (gle_put w1 4 6 4 0).wf
  have f3 := fine_put w2 f2 15 6 5 0 (good0 15 6 5 (by decide) (by decide))
  have w3 := (gle_put w2 15 6 5 0).wf
  exact fine_jump w3 f3 22 6 S.trap (by omega) (by omega) (by decide) (by decide)
theorem fine_signed {S : GSt} (hw : S.wf) (h : S.fine) (s : List UInt8) : (signedF s S).fine := by
  simp only [signedF]
  split
  · have f1 := fine_put hw h 4 5 7 0 (good0 4 5 7 (by decide) (by decide))
    have w1 := (gle_put hw 4 5 7 0).wf
    have f2 := fine_put w1 f1 6 5 4 0 (good0 6 5 4 (by decide) (by decide))
    have w2 := (gle_put w1 6 5 4 0).wf
    exact fine_put w2 f2 4 4 5 0 (good0 4 4 5 (by decide) (by decide))
  · split
    · have f1 := fine_put hw h 2 5 0 (-1) (good2 2 5 0 _ (by decide) (by decide) (by omega) (by omega))
      have w1 := (gle_put hw 2 5 0 (-1)).wf
      exact fine_put w1 f1 12 4 5 0 (good0 12 4 5 (by decide) (by decide))
    · split
      · exact fine_put hw h 17 4 7 0 (good0 17 4 7 (by decide) (by decide))
      · exact h
def stepB (x : Nat × Nat × Nat) : Bool := rowB x.1 x.2.1 x.2.2 && (isaRow x.1).2.2.2.1 == 0
theorem fine_steps : ∀ (l : List (Nat × Nat × Nat)) {S : GSt}, S.wf → S.fine → (∀ x ∈ l, stepB x = true) → (stepsF l S).fine
  | [], S, _, h, _ => h
  | x :: l, S, hw, h, hl => by
    have hx := hl x (by simp)
    simp only [stepB, Bool.and_eq_true, beq_iff_eq] at hx
    exact fine_steps l (gle_put hw x.1 x.2.1 x.2.2 0).wf (fine_put hw h x.1 x.2.1 x.2.2 0 (good0 _ _ _ hx.1 hx.2)) (fun y hy => hl y (by simp [hy]))
theorem combIn_ok (s : List UInt8) : ∀ l : List (List UInt8 × List (Nat × Nat × Nat)), (∀ y ∈ l, ∀ x ∈ y.2, stepB x = true) → ∀ x ∈ combIn l s, stepB x = true
  | [], _, x, hx => by simp [combIn] at hx
  | y :: l, h, x, hx => by
    simp only [combIn] at hx
    split at hx
    · exact h y (by simp) x hx
    · exact combIn_ok s l (fun z hz => h z (by simp [hz])) x hx
theorem combF_ok (s : List UInt8) : ∀ x ∈ combF s, stepB x = true := combIn_ok s combT (by decide)

/-- A part of the generator that leaves all in order, where not too much is out. -/
def FineF (k : Nat) (g : GSt → GSt) : Prop := ∀ S : GSt, S.wf → S.fine → k ≤ S.out.length → (g S).out.length ≤ 30000 → (g S).fine

theorem fine_short {S : GSt} (hw : S.wf) (h : S.fine) {gl gr : GSt → GSt} {a b k : Nat} (hl : ∀ S : GSt, S.wf → GLe a S (gl S)) (hr : ∀ S : GSt, S.wf → GLe b S (gr S)) (fl : FineF k gl) (fr : FineF k gr) (hk : k ≤ S.out.length) (op : Nat) (value : Int) (h21 : 21 ≤ op) (h23 : op ≤ 23) (hrow : rowB op 4 0 = true) (hkd : (isaRow op).2.2.2.1 = 2) (hv0 : 0 ≤ value) (hv1 : value ≤ 1)
    (hlen : (shortF gl gr op value S).out.length ≤ 30000) : (shortF gl gr op value S).fine := by
  have g1 := gle_new hw
  have g2 := g1.trans (gle_new g1.wf)
  have g3 := hl _ g2.wf
  have g4 := gle_jump g3.wf op 4 S.labs.length
  have g5 := hr _ g4.wf
  have g6 := gle_jump g5.wf op 4 S.labs.length
  have g7 := gle_put g6.wf 2 4 0 value
  have g8 := gle_jump g7.wf 21 0 (S.labs.length + 1)
  have g9 := gle_land g8.wf S.labs.length
  have g10 := gle_put g9.wf 2 4 0 (1 - value)
  have g11 := gle_land g10.wf (S.labs.length + 1)
  have g12 := gle_settle g11.wf S.labs.length
  have g13 := gle_settle g12.wf (S.labs.length + 1)
  have e13 : (shortF gl gr op value S).out.length = _ := rfl
  have lo3 := g3.lo; have lo4 := g4.lo; have lo5 := g5.lo; have lo6 := g6.lo; have lo7 := g7.lo; have lo8 := g8.lo; have lo9 := g9.lo; have lo10 := g10.lo; have lo11 := g11.lo; have lo12 := g12.lo; have lo13 := g13.lo
  have la2 := g2.labs
  have nl : S.newLab.newLab.labs.length = S.labs.length + 2 := by rw [newLab_len, newLab_len]
  have lb11 : S.labs.length + 2 ≤ (((((gr ((gl S.newLab.newLab).jump op 4 S.labs.length)).jump op 4 S.labs.length).put 2 4 0 value).jump 21 0 (S.labs.length + 1)).land S.labs.length |>.put 2 4 0 (1 - value) |>.land (S.labs.length + 1)).labs.length := by
    rw [← nl]
    exact Nat.le_trans g3.labs (Nat.le_trans g4.labs (Nat.le_trans g5.labs (Nat.le_trans g6.labs (Nat.le_trans g7.labs (Nat.le_trans g8.labs (Nat.le_trans g9.labs (Nat.le_trans g10.labs g11.labs)))))))
  have hend : (shortF gl gr op value S).out.length = (((shortF gl gr op value S).out.length)) := rfl
  simp only [shortF] at hlen ⊢
  have f2 := fine_new (fine_new h)
  have f3 := fl _ g2.wf f2 hk (by omega)
  have f4 := fine_jump g3.wf f3 op 4 S.labs.length h21 h23 hrow hkd
  have f5 := fr _ g4.wf f4 (Nat.le_trans hk (Nat.le_trans g2.lo (Nat.le_trans lo3 lo4))) (by omega)
  have f6 := fine_jump g5.wf f5 op 4 S.labs.length h21 h23 hrow hkd
  have f7 := fine_put g6.wf f6 2 4 0 value (good2 2 4 0 _ (by decide) (by decide) (by omega) (by omega))
  have f8 := fine_jump g7.wf f7 21 0 (S.labs.length + 1) (by omega) (by omega) (by decide) (by decide)
  have f9 := fine_land f8 S.labs.length
  have f10 := fine_put g9.wf f9 2 4 0 (1 - value) (good2 2 4 0 _ (by decide) (by decide) (by omega) (by omega))
  have f11 := fine_land f10 (S.labs.length + 1)
  have f12 := fine_settle g11.wf f11 S.labs.length (by omega) (by omega)
  exact fine_settle g12.wf f12 (S.labs.length + 1) (by omega) (by have := g12.labs; omega)
end Go.Proofs.YtgjgaeloehfhiaaGreatDoor
end
section
/- All of a program's instructions may be written; there are at least five. -/
namespace Go.Proofs.YtgjgaeloehfhiaaGreatDoor
open Go.RowKit

theorem fine_pair {S : GSt} (hw : S.wf) (h : S.fine) {gl gr : GSt → GSt} {a b d : Nat} (hl : ∀ S : GSt, S.wf → GLe a S (gl S)) (hr : ∀ S : GSt, S.wf → GLe b S (gr S)) (fl : FineF d gl) (fr : FineF (d + 1) gr) (hd : d ≤ S.out.length) (s : List UInt8)
    (hlen : (pairF gl gr d s S).out.length ≤ 30000) : (pairF gl gr d s S).fine := by
  have g3 := hl _ hw
  have g4 := gle_put g3.wf 20 4 7 (480 + d)
  have g5 := hr _ g4.wf
  have g6 := gle_put g5.wf 4 5 4 0
  have g7 := gle_put g6.wf 19 4 7 (480 + d)
  have g8 := gle_steps (combF s) g7.wf
  have lo3 := g3.lo; have lo4 := g4.lo; have lo5 := g5.lo; have lo6 := g6.lo; have lo7 := g7.lo; have lo8 := g8.lo
  have p4 := GSt.put_len (gl S) 20 4 7 (480 + d)
  simp only [pairF] at hlen ⊢
  have f3 := fl _ hw h hd (by omega)
  have f4 := fine_put g3.wf f3 20 4 7 (480 + d) (good2 20 4 7 _ (by decide) (by decide) (by omega) (by omega))
  have f5 := fr _ g4.wf f4 (by omega) (by omega)
  have f6 := fine_put g5.wf f5 4 5 4 0 (good0 4 5 4 (by decide) (by decide))
  have f7 := fine_put g6.wf f6 19 4 7 (480 + d) (good2 19 4 7 _ (by decide) (by decide) (by omega) (by omega))
  exact fine_steps _ g7.wf f7 (combF_ok s)

theorem fine_genE {L : Places} (hL : LRange L) : ∀ (e : Ast) (d : Nat), e.okE → FineF d (genE L e d) := by
  intro e
  induction e with
  | exp k t ln l r ihl ihr =>
    intro d hok S hw h hd hlen
    obtain ⟨hft, hsh⟩ := hok
    obtain ⟨p1, p2, p3, p4⟩ := hL.place t
    rcases hsh with ⟨rfl | rfl | rfl, -, -⟩ | ⟨rfl | rfl | rfl, hol, -⟩ | ⟨rfl, hol, hor⟩
    · exact fine_lit hw h t.num hft.2
    · have f1 := fine_put hw h 26 0 0 24 (good1 26 0 0 _ (by decide) (by decide) (by omega) (by omega))
      exact fine_put (gle_put hw 26 0 0 24).wf f1 4 4 1 0 (good0 4 4 1 (by decide) (by decide))
    · exact fine_put hw h 19 4 7 _ (good2 19 4 7 _ (by decide) (by decide) (by omega) (by omega))
    · have g1 := gle_genE L l d S hw
      have g2 := gle_bnd g1.wf (placeOf L t).2
      have hs : genE L (.exp 3 t ln l r) d S = (bndF (placeOf L t).2 (genE L l d S)).put 19 4 4 (placeOf L t).1 := rfl
      rw [hs] at hlen ⊢
      rw [GSt.put_len] at hlen
      have f1 := ihl d hol S hw h hd (by have := g2.lo; omega)
      have f2 := fine_bnd g1.wf f1 (placeOf L t).2 p3 p4
      exact fine_put g2.wf f2 19 4 4 _ (good2 19 4 4 _ (by decide) (by decide) (by omega) (by omega))
    · have hs : genE L (.exp 4 t ln l r) d S = signedF t.text.toList (genE L l d S) := rfl
      rw [hs] at hlen ⊢
      have g1 := gle_genE L l d S hw
      have f1 := ihl d hol S hw h hd (by have := (gle_signed g1.wf t.text.toList).lo; omega)
      exact fine_signed g1.wf f1 _
    · exact ihl d hol S hw h hd hlen
    · have hs : genE L (.exp 5 t ln l r) d S = if t.text.toList = [38, 38] then shortF (genE L l d) (genE L r d) 22 1 S else if t.text.toList = [124, 124] then shortF (genE L l d) (genE L r d) 23 0 S else pairF (genE L l d) (genE L r (d + 1)) d t.text.data.toList S := rfl
      rw [hs] at hlen ⊢
      split
      · rename_i q
        rw [if_pos q] at hlen
        exact fine_short hw h (gle_genE L l d) (gle_genE L r d) (ihl d hol) (ihr d hor) hd 22 1 (by omega) (by omega) (by decide) (by decide) (by omega) (by omega) hlen
      · rename_i q
        rw [if_neg q] at hlen
        split
        · rename_i q2
          rw [if_pos q2] at hlen
          exact fine_short hw h (gle_genE L l d) (gle_genE L r d) (ihl d hol) (ihr d hor) hd 23 0 (by omega) (by omega) (by decide) (by decide) (by omega) (by omega) hlen
        · rename_i q2
          rw [if_neg q2] at hlen
          exact fine_pair hw h (gle_genE L l d) (gle_genE L r (d + 1)) (ihl d hol) (ihr (d + 1) hor) hd _ hlen
  | _ => intro d hok; exact hok.elim

theorem fine_choice {S : GSt} (hw : S.wf) (h : S.fine) {ge gb : GSt → GSt} {gr : Option (GSt → GSt)} {a b c : Nat} (he : ∀ S : GSt, S.wf → GLe a S (ge S)) (hb : ∀ S : GSt, S.wf → GLe b S (gb S)) (hr : ∀ g, gr = some g → ∀ S : GSt, S.wf → GLe c S (g S))
    (fe : FineF 0 ge) (fb : FineF 0 gb) (fr : ∀ g, gr = some g → FineF 0 g) (hlen : (choiceF ge gb gr S).out.length ≤ 30000) : (choiceF ge gb gr S).fine := by
  have g1 := gle_new hw
  have g2 := g1.trans (gle_new g1.wf)
  have g3 := he _ g2.wf
  have g4 := gle_jump g3.wf 22 4 S.labs.length
  have g5 := hb _ g4.wf
  have nl : S.newLab.newLab.labs.length = S.labs.length + 2 := by rw [newLab_len, newLab_len]
  have lo3 := g3.lo; have lo4 := g4.lo; have lo5 := g5.lo
  have la3 := g3.labs; have la4 := g4.labs; have la5 := g5.labs
  simp only [choiceF] at hlen ⊢
  cases gr with
  | none =>
    have g6 := gle_land g5.wf S.labs.length
    have g7 := gle_settle g6.wf S.labs.length
    have g8 := gle_settle g7.wf (S.labs.length + 1)
    have lo6 := g6.lo; have lo7 := g7.lo; have lo8 := g8.lo
    have la6 := g6.labs; have la7 := g7.labs
    simp only at hlen ⊢
    have f3 := fe _ g2.wf (fine_new (fine_new h)) (Nat.zero_le _) (by omega)
    have f4 := fine_jump g3.wf f3 22 4 S.labs.length (by omega) (by omega) (by decide) (by decide)
    have f5 := fb _ g4.wf f4 (Nat.zero_le _) (by omega)
    have f6 := fine_land f5 S.labs.length
    have f7 := fine_settle g6.wf f6 S.labs.length (by omega) (by omega)
    exact fine_settle g7.wf f7 (S.labs.length + 1) (by omega) (by omega)
  | some g =>
    have g6 := gle_jump g5.wf 21 0 (S.labs.length + 1)
    have g7 := gle_land g6.wf S.labs.length
    have g8 := hr g rfl _ g7.wf
    have g9 := gle_land g8.wf (S.labs.length + 1)
    have g10 := gle_settle g9.wf S.labs.length
    have g11 := gle_settle g10.wf (S.labs.length + 1)
    have lo6 := g6.lo; have lo7 := g7.lo; have lo8 := g8.lo; have lo9 := g9.lo; have lo10 := g10.lo; have lo11 := g11.lo
    have la6 := g6.labs; have la7 := g7.labs; have la8 := g8.labs; have la9 := g9.labs; have la10 := g10.labs
    simp only at hlen ⊢
    have f3 := fe _ g2.wf (fine_new (fine_new h)) (Nat.zero_le _) (by omega)
    have f4 := fine_jump g3.wf f3 22 4 S.labs.length (by omega) (by omega) (by decide) (by decide)
    have f5 := fb _ g4.wf f4 (Nat.zero_le _) (by omega)
    have f6 := fine_jump g5.wf f5 21 0 (S.labs.length + 1) (by omega) (by omega) (by decide) (by decide)
    have f7 := fine_land f6 S.labs.length
    have f8 := fr g rfl _ g7.wf f7 (Nat.zero_le _) (by omega)
    have f9 := fine_land f8 (S.labs.length + 1)
    have f10 := fine_settle g9.wf f9 S.labs.length (by omega) (by omega)
    exact fine_settle g10.wf f10 (S.labs.length + 1) (by omega) (by omega)

theorem le_end {k n : Nat} {X Y : GSt} (_ : GLe k X Y) (h : Y.out.length ≤ n) : Y.out.length ≤ n := h

theorem fine_loop {S : GSt} (hw : S.wf) (h : S.fine) {ge gb : GSt → GSt} {a b : Nat} (he : ∀ S : GSt, S.wf → GLe a S (ge S)) (hb : ∀ S : GSt, S.wf → GLe b S (gb S)) (fe : FineF 0 ge) (fb : FineF 0 gb) (hlen : (loopF ge gb S).out.length ≤ 30000) : (loopF ge gb S).fine := by
  have w2 := wf_loop hw
  have f2 : ({ S.newLab.newLab with head := some S.labs.length, tail := some (S.labs.length + 1) } : GSt).fine := ⟨(fine_new (fine_new h)).good, (fine_new (fine_new h)).jmp⟩
  have nl : ({ S.newLab.newLab with head := some S.labs.length, tail := some (S.labs.length + 1) } : GSt).labs.length = S.labs.length + 2 := by show S.newLab.newLab.labs.length = _; rw [newLab_len, newLab_len]
  have g3 := gle_land w2 S.labs.length
  have g4 := he _ g3.wf
  have g5 := gle_jump g4.wf 22 4 (S.labs.length + 1)
  have g6 := hb _ g5.wf
  have g7 := gle_jump g6.wf 21 0 S.labs.length
  have g8 := gle_land g7.wf (S.labs.length + 1)
  have g9 := gle_settle g8.wf S.labs.length
  have g10 := gle_settle g9.wf (S.labs.length + 1)
  have lo3 := g3.lo; have lo4 := g4.lo; have lo5 := g5.lo; have lo6 := g6.lo; have lo7 := g7.lo; have lo8 := g8.lo; have lo9 := g9.lo; have lo10 := g10.lo
  have la3 := g3.labs; have la4 := g4.labs; have la5 := g5.labs; have la6 := g6.labs; have la7 := g7.labs; have la8 := g8.labs; have la9 := g9.labs
  have hlen2 := le_end g10 (n := 30000) hlen
  clear hlen
  have f3 := fine_land f2 S.labs.length
  have f4 := fe _ g3.wf f3 (Nat.zero_le _) (by omega)
  have f5 := fine_jump g4.wf f4 22 4 (S.labs.length + 1) (by omega) (by omega) (by decide) (by decide)
  have f6 := fb _ g5.wf f5 (Nat.zero_le _) (by omega)
  have f7 := fine_jump g6.wf f6 21 0 S.labs.length (by omega) (by omega) (by decide) (by decide)
  have f8 := fine_land f7 (S.labs.length + 1)
  have f9 := fine_settle g8.wf f8 S.labs.length (by omega) (by omega)
  have f10 := fine_settle g9.wf f9 (S.labs.length + 1) (by omega) (by omega)
  exact (⟨f10.good, f10.jmp⟩ : (loopF ge gb S).fine)

theorem fine_genS {L : Places} (hL : LRange L) : ∀ a : Ast, (a.okS ∨ a = .nil) → FineF 0 (genS L a) := by
  intro a
  induction a with
  | stm k t e f body rest link ihe ihf ihb ihr =>
    intro hok S hw h _ hlen
    have hok := hok.resolve_right (by simp)
    obtain ⟨hft, hsh⟩ := hok
    obtain ⟨p1, p2, p3, p4⟩ := hL.place t
    have ge0 := gle_genE L e 0
    rcases hsh with ⟨rfl, hoe, rfl, rfl, rfl, rfl⟩ | ⟨rfl, hoe, hof, rfl, rfl, rfl⟩ | ⟨rfl, hoe, rfl, hob, hbk, hrest⟩ | ⟨rfl, hoe, rfl, hob, hbk, rfl, rfl⟩ | ⟨rfl | rfl, hoe, rfl, rfl, rfl, rfl⟩ | ⟨rfl | rfl | rfl, rfl, rfl, rfl, rfl, rfl⟩ | ⟨rfl, rfl, rfl, hob, hbk, rfl, rfl⟩
    · have hs : genS L (.stm 0 t e .nil .nil .nil false) S = (genE L e 0 S).put 20 4 7 (placeOf L t).1 := rfl
      rw [hs, GSt.put_len] at hlen
      rw [hs]
      have f1 := fine_genE hL e 0 hoe S hw h (Nat.zero_le _) (by omega)
      exact fine_put (ge0 S hw).wf f1 20 4 7 _ (good2 20 4 7 _ (by decide) (by decide) (by omega) (by omega))
    · have hs : genS L (.stm 1 t e f .nil .nil false) S = ((genE L f 1 ((bndF (placeOf L t).2 (genE L e 0 S)).put 20 4 7 480)).put 19 5 7 480).put 20 4 5 (placeOf L t).1 := rfl
      have g1 := ge0 S hw
      have g2 := gle_bnd g1.wf (placeOf L t).2
      have g3 := gle_put g2.wf 20 4 7 480
      have g4 := gle_genE L f 1 _ g3.wf
      have g5 := gle_put g4.wf 19 5 7 480
      have lo1 := g1.lo; have lo2 := g2.lo; have lo3 := g3.lo; have lo4 := g4.lo; have lo5 := g5.lo
      have l3 := GSt.put_len (bndF (placeOf L t).2 (genE L e 0 S)) 20 4 7 480
      rw [hs, GSt.put_len] at hlen
      rw [hs]
      have f1 := fine_genE hL e 0 hoe S hw h (Nat.zero_le _) (by omega)
      have f2 := fine_bnd g1.wf f1 (placeOf L t).2 p3 p4
      have f3 := fine_put g2.wf f2 20 4 7 480 (good2 20 4 7 _ (by decide) (by decide) (by omega) (by omega))
      have f4 := fine_genE hL f 1 hof _ g3.wf f3 (by omega) (by omega)
      have f5 := fine_put g4.wf f4 19 5 7 480 (good2 19 5 7 _ (by decide) (by decide) (by omega) (by omega))
      exact fine_put g5.wf f5 20 4 5 _ (good2 20 4 5 _ (by decide) (by decide) (by omega) (by omega))
    · have hs : genS L (.stm 2 t e .nil body rest link) S = choiceF (genE L e 0) (genS L body) (if rest.isNil then none else some (genS L rest)) S := rfl
      rw [hs] at hlen ⊢
      have hor : rest.okS ∨ rest = .nil := by
        rcases hrest with ⟨h, _⟩ | ⟨h, _⟩
        · exact .inr h
        · exact .inl h
      refine fine_choice hw h ge0 (gle_genS L body) (c := 8 * rest.sz) (fun g hg => ?_) (fun S w f k l => fine_genE hL e 0 hoe S w f k l) (ihb (.inl hob)) (fun g hg => ?_) hlen
      · split at hg
        · cases hg
        · injection hg with hg; subst hg; exact gle_genS L rest
      · split at hg
        · cases hg
        · injection hg with hg; subst hg; exact ihr hor
    · exact fine_loop hw h ge0 (gle_genS L body) (fun S w f k l => fine_genE hL e 0 hoe S w f k l) (ihb (.inl hob)) hlen
    · have hs : genS L (.stm 4 t e .nil .nil .nil false) S = ((genE L e 0 S).put 4 1 4 0).put 26 0 0 14 := rfl
      rw [hs, GSt.put_len, GSt.put_len] at hlen
      rw [hs]
      have f1 := fine_genE hL e 0 hoe S hw h (Nat.zero_le _) (by omega)
      have f2 := fine_put (ge0 S hw).wf f1 4 1 4 0 (good0 4 1 4 (by decide) (by decide))
      exact fine_put (gle_put (ge0 S hw).wf 4 1 4 0).wf f2 26 0 0 14 (good1 26 0 0 _ (by decide) (by decide) (by omega) (by omega))
    · have hs : genS L (.stm 5 t e .nil .nil .nil false) S = ((genE L e 0 S).put 4 1 4 0).put 26 0 0 1 := rfl
      rw [hs, GSt.put_len, GSt.put_len] at hlen
      rw [hs]
      have f1 := fine_genE hL e 0 hoe S hw h (Nat.zero_le _) (by omega)
      have f2 := fine_put (ge0 S hw).wf f1 4 1 4 0 (good0 4 1 4 (by decide) (by decide))
      exact fine_put (gle_put (ge0 S hw).wf 4 1 4 0).wf f2 26 0 0 1 (good1 26 0 0 _ (by decide) (by decide) (by omega) (by omega))
    · exact fine_put hw h 26 0 0 0 (good1 26 0 0 _ (by decide) (by decide) (by omega) (by omega))
    · exact fine_jump hw h 21 0 _ (by omega) (by omega) (by decide) (by decide)
    · exact fine_jump hw h 21 0 _ (by omega) (by omega) (by decide) (by decide)
    · have f1 := fine_put hw h 1 0 0 0 (good0 1 0 0 (by decide) (by decide))
      exact ihb (.inl hob) _ (gle_put hw 1 0 0 0).wf f1 (Nat.zero_le _) hlen
  | blk ln l ih => intro hok; exact ih (.inl (hok.resolve_right (by simp)).1)
  | cons a l ih1 ih2 =>
    intro hok S hw h hk hlen
    have hok := hok.resolve_right (by simp)
    have g1 := gle_genS L a S hw
    have g2 := gle_genS L l _ g1.wf
    have hs : genS L (.cons a l) S = genS L l (genS L a S) := rfl
    rw [hs] at hlen ⊢
    exact ih2 (.inl hok.2.2.1) _ g1.wf (ih1 (.inl hok.1) S hw h hk (by have := g2.lo; omega)) (Nat.zero_le _) hlen
  | nil => intro _ S _ h _ _; exact h
  | lnil => intro _ S _ h _ _; exact h
  | exp k t ln l r => intro hok; rcases hok with h | h; exact h.elim; cases h

theorem fine00 : S00.fine := by
  refine ⟨fun i hi => (by cases hi), fun k hk j hj => ?_⟩
  have h0 : k = 0 := by simp [S00] at hk; omega
  subst h0
  cases hj
theorem genF_good {L : Places} (hL : LRange L) {body : Ast} (hok : body.okS) (hlen : (genF L body).length ≤ 384) : (∀ i ∈ genF L body, i.good) ∧ 5 ≤ (genF L body).length := by
  have g1 := gle_put S00_wf 2 7 0 0
  have g2 := gle_genS L body _ g1.wf
  have g3 := gle_put g2.wf 2 1 0 0
  have g4 := gle_put g3.wf 26 0 0 1
  have g5 := gle_land g4.wf 0
  have g6 := gle_put g5.wf 2 1 0 (-1)
  have g7 := gle_put g6.wf 26 0 0 1
  have g8 := gle_settle g7.wf 0
  have lo2 := g2.lo; have lo5 := g5.lo; have lo8 := g8.lo
  have l1 := GSt.put_len S00 2 7 0 0
  have l3 := GSt.put_len (genS L body (S00.put 2 7 0 0)) 2 1 0 0
  have l4 := GSt.put_len ((genS L body (S00.put 2 7 0 0)).put 2 1 0 0) 26 0 0 1
  have l6 := GSt.put_len ((((genS L body (S00.put 2 7 0 0)).put 2 1 0 0).put 26 0 0 1).land 0) 2 1 0 (-1)
  have l7 := GSt.put_len (((((genS L body (S00.put 2 7 0 0)).put 2 1 0 0).put 26 0 0 1).land 0).put 2 1 0 (-1)) 26 0 0 1
  have la : S00.labs.length = 1 := rfl
  have la1 := g1.labs; have la2 := g2.labs; have la3 := g3.labs; have la4 := g4.labs; have la5 := g5.labs; have la6 := g6.labs; have la7 := g7.labs
  have hF : genF L body = ((((((((genS L body (S00.put 2 7 0 0)).put 2 1 0 0).put 26 0 0 1).land 0).put 2 1 0 (-1)).put 26 0 0 1).settle 0)).out := rfl
  rw [hF] at hlen ⊢
  have f1 := fine_put S00_wf fine00 2 7 0 0 (good2 2 7 0 _ (by decide) (by decide) (by omega) (by omega))
  have f2 := fine_genS hL body (.inl hok) _ g1.wf f1 (Nat.zero_le _) (by omega)
  have f3 := fine_put g2.wf f2 2 1 0 0 (good2 2 1 0 _ (by decide) (by decide) (by omega) (by omega))
  have f4 := fine_put g3.wf f3 26 0 0 1 (good1 26 0 0 _ (by decide) (by decide) (by omega) (by omega))
  have f5 := fine_land f4 0
  have f6 := fine_put g5.wf f5 2 1 0 (-1) (good2 2 1 0 _ (by decide) (by decide) (by omega) (by omega))
  have f7 := fine_put g6.wf f6 26 0 0 1 (good1 26 0 0 _ (by decide) (by decide) (by omega) (by omega))
  have f8 := fine_settle g7.wf f7 0 (by omega) (by omega)
  exact ⟨f8.good, by omega⟩

/-- The sum of sizes. -/
def sumD : List (Tok × Nat) → Nat
  | [] => 0
  | d :: l => max 1 d.2 + sumD l
theorem dataF_sum : ∀ (ds : List (Tok × Nat)) (sum : Nat), sum ≤ 96 → dataF ds sum = none → sum + sumD ds ≤ 96
  | [], sum, h0, _ => by simp [sumD]; exact h0
  | d :: l, sum, h0, h => by
    simp only [dataF] at h
    split at h
    · cases h
    · have := dataF_sum l _ (by omega) h
      simp only [sumD]; omega
theorem placesF_range : ∀ (ds : List (Tok × Nat)) (at_ : Nat) (L0 L : Places), 384 ≤ at_ → placesF ds at_ L0 = .ok L → (∀ key p, L0 key = some p → 384 ≤ p.1 ∧ 0 ≤ p.2 ∧ p.1 + max 1 p.2 ≤ (at_ : Int)) → ∀ key p, L key = some p → 384 ≤ p.1 ∧ 0 ≤ p.2 ∧ p.1 + max 1 p.2 ≤ ((at_ + sumD ds : Nat) : Int)
  | [], at_, L0, L, _, h, hl => by simp only [placesF] at h; cases h; simpa [sumD] using hl
  | d :: ds, at_, L0, L, h0, h, hl => by
    simp only [placesF] at h
    split at h
    · cases h
    · intro key p hp
      have := placesF_range ds (at_ + max 1 d.2) _ L (by omega) h (fun key p hp => by
        split at hp
        · injection hp with hp; subst hp; simp only; omega
        · have := hl key p hp; omega) key p hp
      simp only [sumD]
      rw [show at_ + (max 1 d.2 + sumD ds) = at_ + max 1 d.2 + sumD ds by omega]
      exact this

/-- What is known of a unit. -/
theorem takenF_good {s : ByteArray} {u : UnitF} (h : takenF s = .ok u) : (∀ i ∈ u.code, i.good) ∧ u.code.length ≤ 384 ∧ 5 ≤ u.code.length ∧ LRange u.places ∧ u.body.okS ∧ u.body.isL ∧ u.body.sz ≤ 300000 ∧ chkF u.places u.body 0 = none ∧
    placesF u.ds 384 (fun _ => none) = .ok u.places ∧ sumD u.ds ≤ 96 ∧ (∀ d ∈ u.ds, DeclOK d) ∧ u.ds.length ≤ 100000 ∧ s.size ≤ 16384 ∧ readF (cutF s) = .ok (u.ds, u.body.items) := by
  unfold takenF at h
  split at h
  · cases h
  · rename_i hs
    obtain ⟨r1, r2⟩ := readF_ok s (by omega)
    split at h
    · cases h
    · rename_i ds l q
      obtain ⟨d1, d2, d3, d4, d5⟩ := r1 _ _ q
      unfold taken1F at h
      split at h
      · cases h
      · rename_i L q2
        obtain ⟨n1, n2, n3⟩ := namesF_ok q2 d2
        split at h
        · cases h
        · rename_i q3
          have hsum := dataF_sum ds 0 (by omega) q3
          have hr : LRange L := fun key p hp => by
            have := placesF_range ds 384 _ L (Nat.le_refl _) n1 (fun key p hp => by cases hp) key p hp
            omega
          split at h
          · cases h
          · split at h
            · cases h
            · rename_i q5
              cases h
              obtain ⟨g1, g2⟩ := genF_good hr d3 (by omega)
              have hit : ∀ l : List Ast, (ofList l).items = l := fun l => by
                induction l with
                | nil => rfl
                | cons a l ih => simp only [ofList, Ast.items, ih]
              exact ⟨g1, by show (genF L (ofList l)).length ≤ 384; omega, g2, hr, d3, d4, d5, n2, n1, by show sumD ds ≤ 96; omega, d2, d1, by omega, by show readF (cutF s) = .ok (ds, (ofList l).items); rw [hit l]; exact q⟩
end Go.Proofs.YtgjgaeloehfhiaaGreatDoor
end
