/- What the generator makes, as a plain function; its labels are in order; its size. -/
import Derived.Test.YtgjgaeloehfhiaaGreatDoorM08
section
namespace Go.Proofs.YtgjgaeloehfhiaaGreatDoor
open Go.RowKit

def Ast.isNil : Ast → Bool
  | .nil => true
  | _ => false

def litF (n : Nat) (S : GSt) : GSt :=
  let S := S.put 2 4 0 (wrap64 (IntKind.i16.wrap n))
  if 32767 < n then S.put 3 4 0 ((n : Int) / 65536) else S
def bndF (z : Int) (S : GSt) : GSt := (((S.put 2 5 0 z).put 4 6 4 0).put 15 6 5 0).jump 22 6 S.trap
def signedF (s : List UInt8) (S : GSt) : GSt :=
  if s = [45] then ((S.put 4 5 7 0).put 6 5 4 0).put 4 4 5 0
  else if s = [126] then (S.put 2 5 0 (-1)).put 12 4 5 0
  else if s = [33] then S.put 17 4 7 0
  else S
/-- What an operator makes of two registers. -/
def combT : List (List UInt8 × List (Nat × Nat × Nat)) := [([33, 61], [(17, 4, 5), (17, 4, 7)]), ([37], [(9, 4, 5)]), ([38], [(10, 4, 5)]), ([42], [(7, 4, 5)]), ([43], [(5, 4, 5)]), ([45], [(6, 4, 5)]), ([47], [(8, 4, 5)]), ([60], [(15, 4, 5)]),
  ([60, 60], [(13, 4, 5)]), ([60, 61], [(15, 5, 4), (4, 4, 5), (17, 4, 7)]), ([61, 61], [(17, 4, 5)]), ([62], [(15, 5, 4), (4, 4, 5)]), ([62, 61], [(15, 4, 5), (17, 4, 7)]), ([62, 62], [(14, 4, 5)]), ([94], [(12, 4, 5)]), ([124], [(11, 4, 5)])]
def combIn : List (List UInt8 × List (Nat × Nat × Nat)) → List UInt8 → List (Nat × Nat × Nat)
  | [], _ => []
  | x :: l, s => if x.1 = s then x.2 else combIn l s
def combF (s : List UInt8) : List (Nat × Nat × Nat) := combIn combT s
def stepsF (l : List (Nat × Nat × Nat)) (S : GSt) : GSt := l.foldl (fun S x => S.put x.1 x.2.1 x.2.2 0) S
def shortF (gl gr : GSt → GSt) (op value : Int) (S : GSt) : GSt :=
  let n := S.labs.length
  let S := gl S.newLab.newLab
  let S := gr (S.jump op 4 n)
  let S := (((S.jump op 4 n).put 2 4 0 value).jump 21 0 (n + 1)).land n
  (((S.put 2 4 0 (1 - value)).land (n + 1)).settle n).settle (n + 1)
def pairF (gl gr : GSt → GSt) (d : Nat) (s : List UInt8) (S : GSt) : GSt :=
  stepsF (combF s) (((gr ((gl S).put 20 4 7 (480 + d))).put 4 5 4 0).put 19 4 7 (480 + d))
def placeOf (L : Places) (t : Tok) : Int × Int := (L t.text.data.toList).getD (0, 0)

def genE (L : Places) : Ast → Nat → GSt → GSt
  | .exp k t _ l r, d, S =>
    if k = 0 then litF t.num S
    else if k = 1 then (S.put 26 0 0 24).put 4 4 1 0
    else if k = 2 then S.put 19 4 7 (placeOf L t).1
    else if k = 3 then (bndF (placeOf L t).2 (genE L l d S)).put 19 4 4 (placeOf L t).1
    else if k = 6 then genE L l d S
    else if k = 4 then signedF t.text.toList (genE L l d S)
    else if k = 5 then
      if t.text.toList = [38, 38] then shortF (genE L l d) (genE L r d) 22 1 S
      else if t.text.toList = [124, 124] then shortF (genE L l d) (genE L r d) 23 0 S
      else pairF (genE L l d) (genE L r (d + 1)) d t.text.data.toList S
    else S
  | _, _, S => S

def choiceF (ge gb : GSt → GSt) (gr : Option (GSt → GSt)) (S : GSt) : GSt :=
  let n := S.labs.length
  let S := gb ((ge S.newLab.newLab).jump 22 4 n)
  let S := match gr with
    | none => S.land n
    | some g => (g ((S.jump 21 0 (n + 1)).land n)).land (n + 1)
  (S.settle n).settle (n + 1)
def loopF (ge gb : GSt → GSt) (S : GSt) : GSt :=
  let n := S.labs.length
  let S1 := ge (({ S.newLab.newLab with head := some n, tail := some (n + 1) } : GSt).land n)
  let S2 := gb (S1.jump 22 4 (n + 1))
  let S3 := ((((S2.jump 21 0 n).land (n + 1)).settle n).settle (n + 1))
  { S3 with head := S.head, tail := S.tail }

def genS (L : Places) : Ast → GSt → GSt
  | .stm k t e f body rest _, S =>
    if k = 0 then (genE L e 0 S).put 20 4 7 (placeOf L t).1
    else if k = 1 then ((genE L f 1 ((bndF (placeOf L t).2 (genE L e 0 S)).put 20 4 7 480)).put 19 5 7 480).put 20 4 5 (placeOf L t).1
    else if k = 2 then choiceF (genE L e 0) (genS L body) (if rest.isNil then none else some (genS L rest)) S
    else if k = 3 then loopF (genE L e 0) (genS L body) S
    else if k = 4 then ((genE L e 0 S).put 4 1 4 0).put 26 0 0 14
    else if k = 5 then ((genE L e 0 S).put 4 1 4 0).put 26 0 0 1
    else if k = 6 then S.put 26 0 0 0
    else if k = 7 then S.jump 21 0 (S.tail.getD 0)
    else if k = 8 then S.jump 21 0 (S.head.getD 0)
    else if k = 9 then genS L body (S.put 1 0 0 0)
    else S
  | .blk _ l, S => genS L l S
  | .cons h t, S => genS L t (genS L h S)
  | _, S => S

def genF (L : Places) (body : Ast) : List Ins :=
  let S := genS L body (({ out := [], labs := [(0, [])], trap := 0, head := none, tail := none } : GSt).put 2 7 0 0)
  (((((((S.put 2 1 0 0).put 26 0 0 1).land 0).put 2 1 0 (-1)).put 26 0 0 1).settle 0)).out

/-- The state is in order. -/
structure GSt.wf (S : GSt) : Prop where
  ok : S.ok
  trap : S.trap < S.labs.length
  head : ∀ i, S.head = some i → i < S.labs.length
  tail : ∀ i, S.tail = some i → i < S.labs.length

/-- From S to S' at most k instructions are put out. -/
structure GLe (k : Nat) (S S' : GSt) : Prop where
  labs : S.labs.length ≤ S'.labs.length
  lo : S.out.length ≤ S'.out.length
  hi : S'.out.length ≤ S.out.length + k
  trap : S'.trap = S.trap
  head : S'.head = S.head
  tail : S'.tail = S.tail
  wf : S'.wf

theorem GLe.trans {k m : Nat} {a b c : GSt} (h : GLe k a b) (g : GLe m b c) : GLe (k + m) a c :=
  ⟨Nat.le_trans h.labs g.labs, Nat.le_trans h.lo g.lo, by have := h.hi; have := g.hi; omega, g.trap.trans h.trap, g.head.trans h.head, g.tail.trans h.tail, g.wf⟩
theorem GLe.mono {k m : Nat} {a b : GSt} (h : GLe k a b) (hk : k ≤ m) : GLe m a b := ⟨h.labs, h.lo, by have := h.hi; omega, h.trap, h.head, h.tail, h.wf⟩
theorem GLe.refl {a : GSt} (h : a.wf) : GLe 0 a a := ⟨Nat.le_refl _, Nat.le_refl _, Nat.le_refl _, rfl, rfl, rfl, h⟩

theorem GSt.put_len (S : GSt) (op a b imm : Int) : (S.put op a b imm).out.length = S.out.length + 1 := by simp [GSt.put]
theorem gle_put {S : GSt} (h : S.wf) (op a b imm : Int) : GLe 1 S (S.put op a b imm) := by
  refine ⟨Nat.le_refl _, by rw [GSt.put_len]; omega, by rw [GSt.put_len]; omega, rfl, rfl, rfl, ⟨fun i hi => ?_, h.trap, h.head, h.tail⟩⟩
  obtain ⟨h1, h2, h3⟩ := h.ok i hi
  rw [GSt.put_len]
  exact ⟨Nat.le_succ_of_le h1, Nat.le_succ_of_le h2, fun j hj => Nat.lt_succ_of_lt (h3 j hj)⟩
theorem gle_land {S : GSt} (h : S.wf) (i : Nat) : GLe 0 S (S.land i) := by
  have hl : (S.land i).labs.length = S.labs.length := by simp [GSt.land]
  refine ⟨Nat.le_of_eq hl.symm, Nat.le_refl _, Nat.le_refl _, rfl, rfl, rfl, ⟨fun j hj => ?_, by rw [hl]; exact h.trap, by rw [hl]; exact h.head, by rw [hl]; exact h.tail⟩⟩
  rw [hl] at hj
  obtain ⟨h1, h2, h3⟩ := h.ok j hj
  simp only [GSt.land]
  by_cases hij : i = j
  · subst hij
    rw [getD_set_eq _ _ _ _ hj]
    exact ⟨Nat.le_refl _, h2, h3⟩
  · rw [getD_set_ne' _ _ _ _ _ hij]
    exact ⟨h1, h2, h3⟩
theorem gle_jump {S : GSt} (h : S.wf) (op a : Int) (i : Nat) : GLe 1 S (S.jump op a i) := by
  have hl : (S.jump op a i).labs.length = S.labs.length := by simp [GSt.jump, GSt.put, GSt.mark]
  have ho : (S.jump op a i).out.length = S.out.length + 1 := by simp [GSt.jump, GSt.put, GSt.mark]
  refine ⟨Nat.le_of_eq hl.symm, by omega, by omega, rfl, rfl, rfl, ⟨fun j hj => ?_, by rw [hl]; exact h.trap, by rw [hl]; exact h.head, by rw [hl]; exact h.tail⟩⟩
  rw [hl] at hj
  obtain ⟨h1, h2, h3⟩ := h.ok j hj
  rw [ho]
  simp only [GSt.jump, GSt.put, GSt.mark]
  by_cases hij : i = j
  · subst hij
    rw [getD_set_eq _ _ _ _ hj]
    refine ⟨Nat.le_succ_of_le h1, by simp; exact h2, fun j hj => ?_⟩
    rcases List.mem_append.1 hj with hj | hj
    · exact Nat.lt_succ_of_lt (h3 j hj)
    · simp only [List.mem_singleton] at hj; omega
  · rw [getD_set_ne' _ _ _ _ _ hij]
    exact ⟨Nat.le_succ_of_le h1, Nat.le_succ_of_le h2, fun j hj => Nat.lt_succ_of_lt (h3 j hj)⟩
theorem gle_settle {S : GSt} (h : S.wf) (i : Nat) : GLe 0 S (S.settle i) := by
  have ho : (S.settle i).out.length = S.out.length := by simp only [GSt.settle, settleL_len]
  refine ⟨Nat.le_refl _, by omega, by omega, rfl, rfl, rfl, ⟨fun j hj => ?_, h.trap, h.head, h.tail⟩⟩
  rw [ho]
  exact h.ok j hj
theorem getD_snoc {α : Type} (l : List α) (x d : α) (j : Nat) : (l ++ [x]).getD j d = if j < l.length then l.getD j d else if j = l.length then x else d := by
  simp only [List.getD_eq_getElem?_getD]
  by_cases h : j < l.length
  · rw [if_pos h, List.getElem?_append_left h]
  · rw [if_neg h, List.getElem?_append_right (by omega)]
    by_cases h2 : j = l.length
    · subst h2; simp
    · rw [if_neg h2, List.getElem?_eq_none (by simp; omega)]; rfl
theorem newLab_len (S : GSt) : S.newLab.labs.length = S.labs.length + 1 := by simp [GSt.newLab]
theorem gle_new {S : GSt} (h : S.wf) : GLe 0 S S.newLab := by
  refine ⟨by rw [newLab_len]; omega, Nat.le_refl _, Nat.le_refl _, rfl, rfl, rfl, ⟨fun j hj => ?_, by rw [newLab_len]; have := h.trap; exact Nat.lt_succ_of_lt this, fun i hi => by rw [newLab_len]; exact Nat.lt_succ_of_lt (h.head i hi), fun i hi => by rw [newLab_len]; exact Nat.lt_succ_of_lt (h.tail i hi)⟩⟩
  rw [newLab_len] at hj
  simp only [GSt.newLab]
  rw [getD_snoc]
  by_cases h2 : j < S.labs.length
  · rw [if_pos h2]; exact h.ok j h2
  · rw [if_neg h2, if_pos (by omega)]
    exact ⟨Nat.zero_le _, Nat.zero_le _, fun j hj => by cases hj⟩

theorem gle_lit {S : GSt} (h : S.wf) (n : Nat) : GLe 2 S (litF n S) := by
  simp only [litF]
  have h1 := gle_put h 2 4 0 (wrap64 (IntKind.i16.wrap n))
  split
  · exact h1.trans (gle_put h1.wf _ _ _ _)
  · exact h1.mono (by omega)
theorem gle_bnd {S : GSt} (h : S.wf) (z : Int) : GLe 4 S (bndF z S) := by
  have h1 := gle_put h 2 5 0 z
  have h2 := h1.trans (gle_put h1.wf 4 6 4 0)
  have h3 := h2.trans (gle_put h2.wf 15 6 5 0)
  exact h3.trans (gle_jump h3.wf 22 6 S.trap)
theorem gle_signed {S : GSt} (h : S.wf) (s : List UInt8) : GLe 3 S (signedF s S) := by
  simp only [signedF]
  split
  · have h1 := gle_put h 4 5 7 0
    have h2 := h1.trans (gle_put h1.wf 6 5 4 0)
    exact h2.trans (gle_put h2.wf 4 4 5 0)
  · split
    · have h1 := gle_put h 2 5 0 (-1)
      exact (h1.trans (gle_put h1.wf 12 4 5 0)).mono (by omega)
    · split
      · exact (gle_put h _ _ _ _).mono (by omega)
      · exact (GLe.refl h).mono (by omega)
theorem gle_steps : ∀ (l : List (Nat × Nat × Nat)) {S : GSt}, S.wf → GLe l.length S (stepsF l S)
  | [], S, h => GLe.refl h
  | x :: l, S, h => by
    have h1 := gle_put h x.1 x.2.1 x.2.2 0
    have h2 := h1.trans (gle_steps l h1.wf)
    exact h2.mono (by simp; omega)
theorem combIn_len (s : List UInt8) : ∀ l : List (List UInt8 × List (Nat × Nat × Nat)), (∀ x ∈ l, x.2.length ≤ 3) → (combIn l s).length ≤ 3
  | [], _ => by simp [combIn]
  | x :: l, h => by
    simp only [combIn]
    split
    · exact h x (by simp)
    · exact combIn_len s l fun y hy => h y (by simp [hy])
theorem combF_len (s : List UInt8) : (combF s).length ≤ 3 := combIn_len s combT (by decide)

theorem gle_short {S : GSt} (h : S.wf) {gl gr : GSt → GSt} {a b : Nat} (hl : ∀ S : GSt, S.wf → GLe a S (gl S)) (hr : ∀ S : GSt, S.wf → GLe b S (gr S)) (op value : Int) : GLe (a + b + 5) S (shortF gl gr op value S) := by
  have h1 := gle_new h
  have h2 := h1.trans (gle_new h1.wf)
  have h3 := h2.trans (hl _ h2.wf)
  have h4 := h3.trans (gle_jump h3.wf op 4 S.labs.length)
  have h5 := h4.trans (hr _ h4.wf)
  have h6 := h5.trans (gle_jump h5.wf op 4 S.labs.length)
  have h7 := h6.trans (gle_put h6.wf 2 4 0 value)
  have h8 := h7.trans (gle_jump h7.wf 21 0 (S.labs.length + 1))
  have h9 := h8.trans (gle_land h8.wf S.labs.length)
  have h10 := h9.trans (gle_put h9.wf 2 4 0 (1 - value))
  have h11 := h10.trans (gle_land h10.wf (S.labs.length + 1))
  have h12 := h11.trans (gle_settle h11.wf S.labs.length)
  have h13 := h12.trans (gle_settle h12.wf (S.labs.length + 1))
  exact h13.mono (by omega)
theorem gle_pair {S : GSt} (h : S.wf) {gl gr : GSt → GSt} {a b : Nat} (hl : ∀ S : GSt, S.wf → GLe a S (gl S)) (hr : ∀ S : GSt, S.wf → GLe b S (gr S)) (d : Nat) (s : List UInt8) : GLe (a + b + 6) S (pairF gl gr d s S) := by
  have h3 := hl _ h
  have h4 := h3.trans (gle_put h3.wf 20 4 7 (480 + d))
  have h5 := h4.trans (hr _ h4.wf)
  have h6 := h5.trans (gle_put h5.wf 4 5 4 0)
  have h7 := h6.trans (gle_put h6.wf 19 4 7 (480 + d))
  have h8 := h7.trans (gle_steps (combF s) h7.wf)
  exact h8.mono (by have := combF_len s; omega)

theorem gle_genE (L : Places) : ∀ (e : Ast) (d : Nat) (S : GSt), S.wf → GLe (8 * e.sz) S (genE L e d S) := by
  intro e
  induction e with
  | exp k t ln l r ihl ihr =>
    intro d S h
    simp only [genE, Ast.sz]
    split
    · exact (gle_lit h _).mono (by omega)
    split
    · have h1 := gle_put h 26 0 0 24
      exact (h1.trans (gle_put h1.wf 4 4 1 0)).mono (by omega)
    split
    · exact (gle_put h _ _ _ _).mono (by omega)
    split
    · have h1 := ihl d S h
      have h2 := h1.trans (gle_bnd h1.wf (placeOf L t).2)
      exact (h2.trans (gle_put h2.wf _ _ _ _)).mono (by omega)
    split
    · exact (ihl d S h).mono (by omega)
    split
    · have h1 := ihl d S h
      exact (h1.trans (gle_signed h1.wf _)).mono (by omega)
    split
    · split
      · exact (gle_short h (ihl d) (ihr d) _ _).mono (by omega)
      split
      · exact (gle_short h (ihl d) (ihr d) _ _).mono (by omega)
      · exact (gle_pair h (ihl d) (ihr (d + 1)) _ _).mono (by omega)
    · exact (GLe.refl h).mono (by omega)
  | _ => intro d S h; exact (GLe.refl h).mono (by omega)

theorem gle_choice {S : GSt} (h : S.wf) {ge gb : GSt → GSt} {gr : Option (GSt → GSt)} {a b c : Nat} (he : ∀ S : GSt, S.wf → GLe a S (ge S)) (hb : ∀ S : GSt, S.wf → GLe b S (gb S)) (hr : ∀ g, gr = some g → ∀ S : GSt, S.wf → GLe c S (g S)) :
    GLe (a + b + c + 2) S (choiceF ge gb gr S) := by
  have h1 := gle_new h
  have h2 := h1.trans (gle_new h1.wf)
  have h3 := h2.trans (he _ h2.wf)
  have h4 := h3.trans (gle_jump h3.wf 22 4 S.labs.length)
  have h5 := h4.trans (hb _ h4.wf)
  simp only [choiceF]
  cases gr with
  | none =>
    have h6 := h5.trans (gle_land h5.wf S.labs.length)
    have h7 := h6.trans (gle_settle h6.wf S.labs.length)
    exact (h7.trans (gle_settle h7.wf (S.labs.length + 1))).mono (by omega)
  | some g =>
    have h6 := h5.trans (gle_jump h5.wf 21 0 (S.labs.length + 1))
    have h7 := h6.trans (gle_land h6.wf S.labs.length)
    have h8 := h7.trans (hr g rfl _ h7.wf)
    have h9 := h8.trans (gle_land h8.wf (S.labs.length + 1))
    have h10 := h9.trans (gle_settle h9.wf S.labs.length)
    exact (h10.trans (gle_settle h10.wf (S.labs.length + 1))).mono (by omega)

/-- The state with a loop's labels: as wide. -/
theorem wf_loop {S : GSt} (h : S.wf) : ({ S.newLab.newLab with head := some S.labs.length, tail := some (S.labs.length + 1) } : GSt).wf := by
  have h1 := gle_new h
  have h2 := h1.trans (gle_new h1.wf)
  have e : S.newLab.newLab.labs.length = S.labs.length + 2 := by rw [newLab_len, newLab_len]
  refine ⟨h2.wf.ok, h2.wf.trap, fun i hi => ?_, fun i hi => ?_⟩
  · have : i = S.labs.length := (Option.some.inj hi).symm
    show i < S.newLab.newLab.labs.length
    omega
  · have : i = S.labs.length + 1 := (Option.some.inj hi).symm
    show i < S.newLab.newLab.labs.length
    omega
theorem gle_loop {S : GSt} (h : S.wf) {ge gb : GSt → GSt} {a b : Nat} (he : ∀ S : GSt, S.wf → GLe a S (ge S)) (hb : ∀ S : GSt, S.wf → GLe b S (gb S)) : GLe (a + b + 2) S (loopF ge gb S) := by
  have h1 := gle_new h
  have h2 := h1.trans (gle_new h1.wf)
  have h3 := gle_land (wf_loop h) S.labs.length
  have h4 := h3.trans (he _ h3.wf)
  have h5 := h4.trans (gle_jump h4.wf 22 4 (S.labs.length + 1))
  have h6 := h5.trans (hb _ h5.wf)
  have h7 := h6.trans (gle_jump h6.wf 21 0 S.labs.length)
  have h8 := h7.trans (gle_land h7.wf (S.labs.length + 1))
  have h9 := h8.trans (gle_settle h8.wf S.labs.length)
  have h10 := h9.trans (gle_settle h9.wf (S.labs.length + 1))
  have hl := Nat.le_trans h2.labs h10.labs
  refine ⟨hl, Nat.le_trans h2.lo h10.lo, ?_, h10.trap.trans h2.trap, rfl, rfl, ⟨h10.wf.ok, h10.wf.trap, fun i hi => Nat.lt_of_lt_of_le (h.head i hi) hl, fun i hi => Nat.lt_of_lt_of_le (h.tail i hi) hl⟩⟩
  have := h10.hi
  have := h2.hi
  show (loopF ge gb S).out.length ≤ _
  simp only [loopF]
  refine Nat.le_trans h10.hi ?_
  show S.newLab.newLab.out.length + _ ≤ _
  omega

theorem gle_genS (L : Places) : ∀ (a : Ast) (S : GSt), S.wf → GLe (8 * a.sz) S (genS L a S) := by
  intro a
  induction a with
  | stm k t e f body rest link ihe ihf ihb ihr =>
    intro S h
    have ge := gle_genE L e
    simp only [genS, Ast.sz]
    split
    · have h1 := ge 0 S h
      exact (h1.trans (gle_put h1.wf _ _ _ _)).mono (by omega)
    split
    · have h1 := ge 0 S h
      have h2 := h1.trans (gle_bnd h1.wf (placeOf L t).2)
      have h3 := h2.trans (gle_put h2.wf 20 4 7 480)
      have h4 := h3.trans (gle_genE L f 1 _ h3.wf)
      have h5 := h4.trans (gle_put h4.wf 19 5 7 480)
      exact (h5.trans (gle_put h5.wf _ _ _ _)).mono (by omega)
    split
    · refine (gle_choice h (ge 0) ihb (c := 8 * rest.sz) fun g hg => ?_).mono (by omega)
      split at hg
      · cases hg
      · injection hg with hg; subst hg; exact ihr
    split
    · exact (gle_loop h (ge 0) ihb).mono (by omega)
    split
    · have h1 := ge 0 S h
      have h2 := h1.trans (gle_put h1.wf 4 1 4 0)
      exact (h2.trans (gle_put h2.wf _ _ _ _)).mono (by omega)
    split
    · have h1 := ge 0 S h
      have h2 := h1.trans (gle_put h1.wf 4 1 4 0)
      exact (h2.trans (gle_put h2.wf _ _ _ _)).mono (by omega)
    split
    · exact (gle_put h _ _ _ _).mono (by omega)
    split
    · exact (gle_jump h _ _ _).mono (by omega)
    split
    · exact (gle_jump h _ _ _).mono (by omega)
    split
    · have h1 := gle_put h 1 0 0 0
      exact (h1.trans (ihb _ h1.wf)).mono (by omega)
    · exact (GLe.refl h).mono (by omega)
  | blk ln l ih => intro S h; simp only [genS, Ast.sz]; exact (ih S h).mono (by omega)
  | cons a l ih1 ih2 =>
    intro S h
    simp only [genS, Ast.sz]
    have h1 := ih1 S h
    exact (h1.trans (ih2 _ h1.wf)).mono (by omega)
  | _ => intro S h; exact (GLe.refl h).mono (by omega)
end Go.Proofs.YtgjgaeloehfhiaaGreatDoor
end
section
/- The generator: what it reads; literals, signs, bounds. -/
namespace Go.Proofs.YtgjgaeloehfhiaaGreatDoor
open Go.RowKit

/-- Steps in memory. -/
def StepsAt (w : World) (v : Value) (l : List (Nat × Nat × Nat)) : Prop := ∃ a c, v = .slice a l.length c ∧ ∀ i, i < l.length → ∃ g off, a = some ⟨g, off, none⟩ ∧ g < w.heap.size ∧
  w.cell? ⟨g, off + i * 3, none⟩ = some (.int .i64 (l.getD i default).1) ∧ w.cell? ⟨g, off + i * 3 + 1, none⟩ = some (.int .i64 (l.getD i default).2.1) ∧ w.cell? ⟨g, off + i * 3 + 2, none⟩ = some (.int .i64 (l.getD i default).2.2)
theorem StepsAt.keep {w w' : World} {v : Value} {l : List (Nat × Nat × Nat)} (h : StepsAt w v l) (hk : ∀ k, k < w.heap.size → w'.heap[k]? = w.heap[k]?) (hs : w.heap.size ≤ w'.heap.size) : StepsAt w' v l := by
  obtain ⟨a, c, rfl, h2⟩ := h
  refine ⟨a, c, rfl, fun i hi => ?_⟩
  obtain ⟨g, off, rfl, hg, c0, c1, c2⟩ := h2 i hi
  have e := fun o => cell_same (w := w) (w' := w') (b := g) (o := o) (hk g hg)
  exact ⟨g, off, rfl, by omega, (e _).trans c0, (e _).trans c1, (e _).trans c2⟩

/-- The table of operators' steps. -/
structure CombAt (w : World) (cm : Nat) (o : Obj) : Prop where
  cell : w.cell? ⟨9, 0, none⟩ = some (.map (some cm))
  lt : 9 < w.heap.size
  obj : w.heap[cm]? = some o
  look : ∀ s : ByteArray, s.size ≤ maxLen → ∃ v, (∀ w' : World, w'.heap[cm]? = some o → (Instr.lookup 259 (.map (some cm)) (.string s) false).run Tryz.prog w' = .ok v w') ∧ StepsAt w v (combF s.data.toList)
/-- A world behind the law's beginning: the table as it was. -/
def Cb (N : Nat) (w : World) : Prop := ∃ w0 cm o, CombAt w0 cm o ∧ w0.heap.size = N ∧ Below N w0 w
theorem Cb.below {N B : Nat} {w w' : World} (h : Cb N w) (hB : N ≤ B) (k : Below B w w') : Cb N w' :=
  let ⟨w0, cm, o, a, b, c⟩ := h
  ⟨w0, cm, o, a, b, c.trans (k.mono hB)⟩
theorem Cb.look {N : Nat} {w : World} (h : Cb N w) (s : ByteArray) (hs : s.size ≤ maxLen) : ∃ cm v, ∀ w', Below N w w' → w'.cell? ⟨9, 0, none⟩ = some (.map (some cm)) ∧ (Instr.lookup 259 (.map (some cm)) (.string s) false).run Tryz.prog w' = .ok v w' ∧ StepsAt w' v (combF s.data.toList) := by
  obtain ⟨w0, cm, o, a, b, c⟩ := h
  obtain ⟨v, h1, h2⟩ := a.look s hs
  refine ⟨cm, v, fun w' k => ?_⟩
  have c2 := c.trans k
  have hk : ∀ k, k < w0.heap.size → w'.heap[k]? = w0.heap[k]? := fun k hk => c2.block k (by omega)
  exact ⟨(cell_same (hk 9 a.lt)).trans a.cell, h1 w' ((hk cm (heap_lt a.obj)).trans a.obj), h2.keep hk c2.size⟩

/-- Sizes of places are words. -/
def LOK (L : Places) : Prop := ∀ key p, L key = some p → 0 ≤ p.2 ∧ p.2 ≤ 4294967295
theorem LOK.place {L : Places} (h : LOK L) (key : List UInt8) : 0 ≤ ((L key).getD (0, 0)).2 ∧ ((L key).getD (0, 0)).2 ≤ 4294967295 := by
  cases hk : L key with
  | none => simp
  | some p => exact h key p hk

/-- What the generator reads: the unit, its places, the table. -/
structure GEnv (w : World) (base ub N : Nat) (L : Places) : Prop where
  ex : ∃ pv mpb cv n, w.heap[ub]? = some (.cells #[pv, .map (some mpb), cv] 51 (0, 0)) ∧ PlacesAt w mpb n L ∧ mpb < base ∧ ub < base
  comb : Cb N w
  hN : N ≤ base
  hb : base ≤ w.heap.size
  lok : LOK L
theorem GEnv.keep {w w' : World} {base ub N : Nat} {L : Places} (h : GEnv w base ub N L) (k : Below base w w') : GEnv w' base ub N L := by
  obtain ⟨⟨pv, mpb, cv, n, h1, h2, h3, h4⟩, h5, h6, h7, h8⟩ := h
  exact ⟨⟨pv, mpb, cv, n, (k.block ub h4).trans h1, h2.keep (k.block mpb h3), h3, h4⟩, h5.below h6 k, h6, Nat.le_trans h7 k.size, h8⟩
theorem GEnv.place {w : World} {base ub N : Nat} {L : Places} (h : GEnv w base ub N L) (s : ByteArray) (hs : s.size ≤ maxLen) :
    ∃ mpb, w.cell? ⟨ub, 1, none⟩ = some (.map (some mpb)) ∧ mpb < base ∧ ub < base ∧ ∀ w', Below base w w' → (Instr.lookup 48 (.map (some mpb)) (.string s) false).run Tryz.prog w' = .ok (lookV (L s.data.toList)) w' := by
  obtain ⟨pv, mpb, cv, n, h1, h2, h3, h4⟩ := h.ex
  refine ⟨mpb, by rw [cell_of_heap h1]; rfl, h3, h4, fun w' k => ?_⟩
  have := (h2.keep (k.block mpb h3)).look false s hs
  simpa using this

/-- What a part of the generator leaves. -/
def GenC (w : World) (base mb ub : Nat) (bs : List Nat) (S' : GSt) : Ending → World → Prop := fun e w' => e = .returned (.tuple #[]) ∧ ∃ bs', bs <+: bs' ∧ MkAt w' base mb ub bs' S' ∧ GFr base w w'

/-- The cells of the maker that its parts read. -/
theorem MkAt.cells {w : World} {base mb ub : Nat} {bs : List Nat} {S : GSt} (h : MkAt w base mb ub bs S) :
    w.cell? ⟨mb, 0, none⟩ = some (.pointer (some ⟨ub, 0, none⟩)) ∧ w.cell? ⟨mb, 2, none⟩ = some (.pointer (some ⟨bs.getD S.trap 0, 0, none⟩)) ∧ w.cell? ⟨mb, 3, none⟩ = some (labPtr bs S.head) ∧ w.cell? ⟨mb, 4, none⟩ = some (labPtr bs S.tail) ∧
      w.frozen? ⟨mb, 3, none⟩ = false ∧ w.frozen? ⟨mb, 4, none⟩ = false := by
  obtain ⟨vo, vs, h1, _⟩ := h
  obtain ⟨d0, d1, -⟩ := cells_of_heap h1
  exact ⟨by rw [d0]; rfl, by rw [d0]; rfl, by rw [d0]; rfl, by rw [d0]; rfl, d1 _, d1 _⟩

theorem pre_getD {a b : List Nat} (h : a <+: b) {i : Nat} (hi : i < a.length) : b.getD i 0 = a.getD i 0 := by
  obtain ⟨t, rfl⟩ := h
  simp [List.getD_eq_getElem?_getD, List.getElem?_append_left hi]

theorem MkAt.len {w : World} {base mb ub : Nat} {bs : List Nat} {S : GSt} (h : MkAt w base mb ub bs S) : bs.length = S.labs.length := by
  obtain ⟨vo, vs, _, _, _, h4⟩ := h
  exact h4.bl

theorem jump_p {base mb ub : Nat} {bs : List Nat} {S : GSt} (op a : Int) (i : Nat) (w : World) (lb : Nat) (hlb : bs.getD i 0 = lb) (h : MkAt w base mb ub bs S) (hi : i < S.labs.length) (hw : S.wf) (hlen : S.out.length ≤ 100000000) :
    Calls Tryz.prog 144 #[.pointer (some ⟨mb, 0, none⟩), .int .i64 op, .int .i64 a, .pointer (some ⟨lb, 0, none⟩)] w fun e w' => e = .returned (.tuple #[]) ∧ MkAt w' base mb ub bs (S.jump op a i) ∧ GFr base w w' := by
  subst hlb
  exact jump_any op a i w h hi hlen (Nat.le_trans (hw.ok i hi).2.1 hlen)
theorem land_p {base mb ub : Nat} {bs : List Nat} {S : GSt} (i : Nat) (w : World) (lb : Nat) (hlb : bs.getD i 0 = lb) (h : MkAt w base mb ub bs S) (hi : i < S.labs.length) (hlen : S.out.length ≤ 100000000) :
    Calls Tryz.prog 60 #[.pointer (some ⟨mb, 0, none⟩), .pointer (some ⟨lb, 0, none⟩)] w fun e w' => e = .returned (.tuple #[]) ∧ MkAt w' base mb ub bs (S.land i) ∧ GFr base w w' := by
  subst hlb
  exact land_any i w h hi hlen
theorem settle_p {base mb ub : Nat} {bs : List Nat} {S : GSt} (i : Nat) (w : World) (lb : Nat) (hlb : bs.getD i 0 = lb) (h : MkAt w base mb ub bs S) (hi : i < S.labs.length) (hw : S.wf) (hlen : S.out.length ≤ 100000000) :
    Calls Tryz.prog 61 #[.pointer (some ⟨mb, 0, none⟩), .pointer (some ⟨lb, 0, none⟩)] w fun e w' => e = .returned (.tuple #[]) ∧ MkAt w' base mb ub bs (S.settle i) ∧ GFr base w w' := by
  subst hlb
  exact settle_any i w h hi hlen hw.ok

/-- A new label. -/
theorem MkAt.newLab {w : World} {base mb ub : Nat} {bs : List Nat} {S : GSt} (h : MkAt w base mb ub bs S) (hw : S.wf) (hb : base ≤ w.heap.size) : MkAt (w.alloc (.cells #[.int .i64 0, .slice none 0 0] 157)) base mb ub (bs ++ [w.heap.size]) S.newLab := by
  obtain ⟨vo, vs, h1, h2, h3, h4⟩ := h
  have hE : Ext w (w.alloc (.cells #[.int .i64 0, .slice none 0 0] 157)) := (Ext.refl w).alloc _
  have old : ∀ {k : Nat} {o : Obj}, w.heap[k]? = some o → (w.alloc (.cells #[.int .i64 0, .slice none 0 0] 157)).heap[k]? = some o := fun hk => (hE.block _ (heap_lt hk)).trans hk
  have gb : ∀ i, i < S.labs.length → (bs ++ [w.heap.size]).getD i 0 = bs.getD i 0 := fun i hi => by rw [getD_snoc, if_pos (by rw [h4.bl]; exact hi)]
  have gv : ∀ i, i < S.labs.length → (vs ++ [Value.slice none 0 0]).getD i default = vs.getD i default := fun i hi => by rw [getD_snoc, if_pos (by rw [h4.vl]; exact hi)]
  have gl : ∀ i, i < S.labs.length → (S.labs ++ [(0, [])]).getD i default = S.labs.getD i default := fun i hi => by rw [getD_snoc, if_pos hi]
  have nb : (bs ++ [w.heap.size]).getD S.labs.length 0 = w.heap.size := by rw [getD_snoc, if_neg (by rw [h4.bl]; omega), if_pos h4.bl.symm]
  have nv : (vs ++ [Value.slice none 0 0]).getD S.labs.length default = .slice none 0 0 := by rw [getD_snoc, if_neg (by rw [h4.vl]; omega), if_pos h4.vl.symm]
  have nl : (S.labs ++ [(0, [])]).getD S.labs.length default = (0, []) := by rw [getD_snoc, if_neg (by omega), if_pos rfl]
  have hp : ∀ o : Option Nat, (∀ i, o = some i → i < S.labs.length) → labPtr (bs ++ [w.heap.size]) o = labPtr bs o := fun o ho => by
    cases o with
    | none => rfl
    | some i => simp only [labPtr, gb i (ho i rfl)]
  refine ⟨vo, vs ++ [Value.slice none 0 0], ?_, h2, own_keep h3 (fun g hg => hE.block g (own_block h3 hg).2) (Nat.le_refl _), ⟨by simp [GSt.newLab, h4.bl], by simp [GSt.newLab, h4.vl], fun i hi => ?_, fun i hi => ?_, fun i j hi hj hij => ?_⟩⟩
  · rw [old h1]
    simp only [GSt.newLab]
    rw [hp (some S.trap) (fun i hi => by injection hi with hi; rw [← hi]; exact hw.trap), hp S.head hw.head, hp S.tail hw.tail]
  · rw [newLab_len] at hi
    simp only [GSt.newLab]
    by_cases e : i = S.labs.length
    · subst e
      rw [nb, nv, nl]
      exact ⟨hb, by rw [heapA, if_pos rfl]; rfl⟩
    · rw [gb i (by omega), gv i (by omega), gl i (by omega)]
      obtain ⟨q1, q2⟩ := h4.blk i (by omega)
      exact ⟨q1, old q2⟩
  · rw [newLab_len] at hi
    simp only [GSt.newLab]
    by_cases e : i = S.labs.length
    · subst e
      rw [nv, nl]
      exact World.ownsRow_nil _ _ _ _
    · rw [gv i (by omega), gl i (by omega)]
      have hr := h4.row i (by omega)
      exact own_keep hr (fun g hg => hE.block g (own_block hr hg).2) (Nat.le_refl _)
  · rw [newLab_len] at hi hj
    have lt : ∀ i, i < S.labs.length → bs.getD i 0 < w.heap.size := fun i hi => heap_lt (h4.blk i hi).2
    by_cases e : i = S.labs.length
    · subst e
      rw [nb, nv, gb j (by omega)]
      exact ⟨by have := lt j (by omega); omega, fun g hg => by simp [Value.ownBlock] at hg⟩
    · by_cases e2 : j = S.labs.length
      · subst e2
        rw [nb, nv, gb i (by omega)]
        exact ⟨by have := lt i (by omega); omega, fun g _ hg => by simp [Value.ownBlock] at hg⟩
      · rw [gb i (by omega), gb j (by omega), gv i (by omega), gv j (by omega)]
        exact h4.inj i j (by omega) (by omega) hij

theorem MkAt.new2 {w : World} {base mb ub : Nat} {bs : List Nat} {S : GSt} (h : MkAt w base mb ub bs S) (hw : S.wf) (hb : base ≤ w.heap.size) :
    MkAt ((w.alloc (.cells #[.int .i64 0, .slice none 0 0] 157)).alloc (.cells #[.int .i64 0, .slice none 0 0] 157)) base mb ub (bs ++ [w.heap.size, w.heap.size + 1]) S.newLab.newLab := by
  have h1 := h.newLab hw hb
  have h2 := h1.newLab (gle_new hw).wf (by rw [szA]; omega)
  rw [szA, List.append_assoc] at h2
  exact h2
theorem new2_at {bs : List Nat} {n a b : Nat} (h : bs.length = n) : (bs ++ [a, b]).getD n 0 = a ∧ (bs ++ [a, b]).getD (n + 1) 0 = b ∧ (bs ++ [a, b]).length = n + 2 := by
  subst h
  refine ⟨?_, ?_, by simp⟩
  · simp [List.getD_eq_getElem?_getD]
  · rw [List.getD_eq_getElem?_getD, List.getElem?_append_right (by omega)]
    simp

theorem MkAt.trapCell {w : World} {base mb ub : Nat} {bs bs' : List Nat} {S S' : GSt} {lb : Nat} (h : MkAt w base mb ub bs' S') (hp : bs <+: bs') (ht : S'.trap = S.trap) (hlt : S.trap < bs.length) (hlb : bs.getD S.trap 0 = lb) :
    w.cell? ⟨mb, 2, none⟩ = some (.pointer (some ⟨lb, 0, none⟩)) ∧ bs'.getD S.trap 0 = lb := by
  have h1 := (pre_getD hp hlt).trans hlb
  refine ⟨?_, h1⟩
  rw [h.cells.2.1, ht, h1]
theorem MkAt.headCell {w : World} {base mb ub : Nat} {bs bs' : List Nat} {S' : GSt} {i lb : Nat} (h : MkAt w base mb ub bs' S') (hp : bs <+: bs') (ht : S'.head = some i) (hlt : i < bs.length) (hlb : bs.getD i 0 = lb) :
    w.cell? ⟨mb, 3, none⟩ = some (.pointer (some ⟨lb, 0, none⟩)) ∧ bs'.getD i 0 = lb := by
  have h1 := (pre_getD hp hlt).trans hlb
  refine ⟨?_, h1⟩
  rw [h.cells.2.2.1, ht]
  simp only [labPtr, h1]
theorem MkAt.tailCell {w : World} {base mb ub : Nat} {bs bs' : List Nat} {S' : GSt} {i lb : Nat} (h : MkAt w base mb ub bs' S') (hp : bs <+: bs') (ht : S'.tail = some i) (hlt : i < bs.length) (hlb : bs.getD i 0 = lb) :
    w.cell? ⟨mb, 4, none⟩ = some (.pointer (some ⟨lb, 0, none⟩)) ∧ bs'.getD i 0 = lb := by
  have h1 := (pre_getD hp hlt).trans hlb
  refine ⟨?_, h1⟩
  rw [h.cells.2.2.2.1, ht]
  simp only [labPtr, h1]
end Go.Proofs.YtgjgaeloehfhiaaGreatDoor
end
