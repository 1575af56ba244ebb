/- What the reader comes to, as a plain function of the tokens. -/
import Derived.Test.YtgjgaeloehfhiaaGreatDoorM01
import Derived.OrdersHeld
section
namespace Go.Proofs.YtgjgaeloehfhiaaGreatDoor

/-- What a reading comes to: a tree and the place behind it, or the line of the fault. -/
abbrev PRes := Except Nat (Ast × Nat)

/-- The operators of two sides with their levels. -/
def opsT : List (List UInt8 × Nat) := [([124, 124], 1), ([38, 38], 2), ([124], 3), ([94], 4), ([38], 5), ([61, 61], 6), ([33, 61], 6), ([60], 7), ([60, 61], 7), ([62], 7), ([62, 61], 7),
  ([60, 60], 8), ([62, 62], 8), ([43], 9), ([45], 9), ([42], 10), ([47], 10), ([37], 10)]
/-- How tight an operator is: 0: it is none. -/
def tightIn (l : List (List UInt8 × Nat)) (s : List UInt8) : Nat :=
  match l with
  | [] => 0
  | x :: l => if x.1 = s then x.2 else tightIn l s
def tightF (s : List UInt8) : Nat := tightIn opsT s

theorem tightIn_le (s : List UInt8) : ∀ l : List (List UInt8 × Nat), (∀ x ∈ l, x.2 ≤ 10) → tightIn l s ≤ 10
  | [], _ => by simp [tightIn]
  | x :: l, h => by
    simp only [tightIn]
    split
    · exact h x (by simp)
    · exact tightIn_le s l fun y hy => h y (by simp [hy])
theorem tightF_le (s : List UInt8) : tightF s ≤ 10 := tightIn_le s opsT (by decide)

/-- The parts of the grammar. -/
inductive What where
  | operand
  | expr (tight : Nat)
  | rest (tight : Nat) (e : Ast)
  | assign
  | choice
  | block
  | stmts (acc : List Ast)
  | stmt

def Ast.lineOf : Ast → Nat
  | .exp _ _ ln _ _ => ln
  | _ => 0

def tightOf (t : Tok) : Nat := if t.kind = 0 then tightF t.text.toList else 0

/-- The statements that are a word: the word, the statement's kind, whether it has a value. -/
def simpleT : List (List UInt8 × Nat × Bool) := [([101, 109, 105, 116], 4, true), ([115, 116, 111, 112], 5, true), ([121, 105, 101, 108, 100], 6, false), ([98, 114, 101, 97, 107], 7, false), ([99, 111, 110, 116, 105, 110, 117, 101], 8, false)]
def simpleIn (t : Tok) : List (List UInt8 × Nat × Bool) → Option (Nat × Bool)
  | [] => none
  | x :: l => if isB t ⟨x.1.toArray⟩ then some x.2 else simpleIn t l
def simpleOf (t : Tok) : Option (Nat × Bool) := simpleIn t simpleT

def pr (toks : List Tok) : Nat → What → Nat → PRes
  | 0, _, _ => .error 0
  | f + 1, .operand, at_ =>
    let t := toks.getD at_ default
    if t.kind = 3 then .ok (.exp 0 t t.line .nil .nil, at_ + 1)
    else if t.kind = 2 then
      if isB (toks.getD (at_ + 1) default) ⟨#[91]⟩ then
        match pr toks f (.expr 1) (at_ + 1 + 1) with
        | .error n => .error n
        | .ok (e, a) => if isB (toks.getD a default) ⟨#[93]⟩ then .ok (.exp 3 t t.line e .nil, a + 1) else .error (toks.getD a default).line
      else .ok (.exp 2 t t.line .nil .nil, at_ + 1)
    else if isB t ⟨#[97, 115, 107]⟩ then .ok (.exp 1 t t.line .nil .nil, at_ + 1)
    else if isB t ⟨#[40]⟩ then
      match pr toks f (.expr 1) (at_ + 1) with
      | .error n => .error n
      | .ok (e, a) => if isB (toks.getD a default) ⟨#[41]⟩ then .ok (.exp 6 t t.line e .nil, a + 1) else .error (toks.getD a default).line
    else if isB t ⟨#[45]⟩ || isB t ⟨#[33]⟩ || isB t ⟨#[126]⟩ then
      match pr toks f .operand (at_ + 1) with
      | .error n => .error n
      | .ok (e, a) => .ok (.exp 4 t t.line e .nil, a)
    else .error t.line
  | f + 1, .expr tight, at_ =>
    match pr toks f .operand at_ with
    | .error n => .error n
    | .ok (e, a) => pr toks f (.rest tight e) a
  | f + 1, .rest tight e, at_ =>
    let t := toks.getD at_ default
    if tightOf t < tight ∨ tightOf t = 0 then .ok (e, at_)
    else match pr toks f (.expr (tightOf t + 1)) (at_ + 1) with
      | .error n => .error n
      | .ok (r, a) => pr toks f (.rest tight (.exp 5 t e.lineOf e r)) a
  | f + 1, .assign, at_ =>
    let t := toks.getD at_ default
    if isB (toks.getD (at_ + 1) default) ⟨#[91]⟩ then
      match pr toks f (.expr 1) (at_ + 1 + 1) with
      | .error n => .error n
      | .ok (i, a) =>
        if isB (toks.getD a default) ⟨#[93]⟩ then
          if isB (toks.getD (a + 1) default) ⟨#[61]⟩ then
            match pr toks f (.expr 1) (a + 1 + 1) with
            | .error n => .error n
            | .ok (v, b) => if isB (toks.getD b default) ⟨#[59]⟩ then .ok (.stm 1 t i v .nil .nil false, b + 1) else .error (toks.getD b default).line
          else .error (toks.getD (a + 1) default).line
        else .error (toks.getD a default).line
    else if isB (toks.getD (at_ + 1) default) ⟨#[61]⟩ then
      match pr toks f (.expr 1) (at_ + 1 + 1) with
      | .error n => .error n
      | .ok (v, b) => if isB (toks.getD b default) ⟨#[59]⟩ then .ok (.stm 0 t v .nil .nil .nil false, b + 1) else .error (toks.getD b default).line
    else .error (toks.getD (at_ + 1) default).line
  | f + 1, .choice, at_ =>
    let t := toks.getD at_ default
    if isB t ⟨#[105, 102]⟩ then
      match pr toks f (.expr 1) (at_ + 1) with
      | .error n => .error n
      | .ok (e, a) =>
        match pr toks f .block a with
        | .error n => .error n
        | .ok (b, c) =>
          if isB (toks.getD c default) ⟨#[101, 108, 115, 101]⟩ then
            if isB (toks.getD (c + 1) default) ⟨#[105, 102]⟩ then
              match pr toks f .choice (c + 1) with
              | .error n => .error n
              | .ok (s, d) => .ok (.stm 2 t e .nil b (.blk 0 (.cons s .lnil)) true, d)
            else
              match pr toks f .block (c + 1) with
              | .error n => .error n
              | .ok (s, d) => .ok (.stm 2 t e .nil b s false, d)
          else .ok (.stm 2 t e .nil b .nil false, c)
    else .error t.line
  | f + 1, .block, at_ =>
    let t := toks.getD at_ default
    if isB t ⟨#[123]⟩ then
      match pr toks f (.stmts []) (at_ + 1) with
      | .error n => .error n
      | .ok (l, a) => .ok (.blk t.line l, a)
    else .error t.line
  | f + 1, .stmts acc, at_ =>
    let t := toks.getD at_ default
    if isB t ⟨#[125]⟩ then .ok (ofList acc, at_ + 1)
    else match pr toks f .stmt at_ with
      | .error n => .error n
      | .ok (s, a) => pr toks f (.stmts (acc ++ [s])) a
  | f + 1, .stmt, at_ =>
    let t := toks.getD at_ default
    if t.kind = 2 then pr toks f .assign at_
    else if isB t ⟨#[105, 102]⟩ then pr toks f .choice at_
    else if isB t ⟨#[123]⟩ then
      match pr toks f .block at_ with
      | .error n => .error n
      | .ok (b, a) => .ok (.stm 9 t .nil .nil b .nil false, a)
    else if isB t ⟨#[119, 104, 105, 108, 101]⟩ then
      match pr toks f (.expr 1) (at_ + 1) with
      | .error n => .error n
      | .ok (e, a) =>
        match pr toks f .block a with
        | .error n => .error n
        | .ok (b, c) => .ok (.stm 3 t e .nil b .nil false, c)
    else match simpleOf t with
      | none => .error t.line
      | some (k, true) =>
        (match pr toks f (.expr 1) (at_ + 1) with
        | .error n => .error n
        | .ok (e, a) => if isB (toks.getD a default) ⟨#[59]⟩ then .ok (.stm k t e .nil .nil .nil false, a + 1) else .error (toks.getD a default).line)
      | some (k, false) => if isB (toks.getD (at_ + 1) default) ⟨#[59]⟩ then .ok (.stm k t .nil .nil .nil .nil false, at_ + 1 + 1) else .error (toks.getD (at_ + 1) default).line

/-- How much room a reading wants. -/
def need (n at_ : Nat) : What → Nat
  | .operand | .assign | .choice | .block | .rest .. => 3 * (n - at_) + 1
  | .expr _ | .stmt => 3 * (n - at_) + 2
  | .stmts _ => 3 * (n - at_) + 3

def Ast.isExp : Ast → Prop
  | .exp .. => True
  | _ => False

/-- Where a part ends: behind where it began. -/
def What.least : What → Nat → Nat
  | .rest .., a => a
  | _, a => a + 1

theorem pr_least (toks : List Tok) (f : Nat) : ∀ (wh : What) (at_ : Nat) (a : Ast) (b : Nat), pr toks f wh at_ = .ok (a, b) → wh.least at_ ≤ b := by
  induction f with
  | zero => intro wh at_ a b h; simp [pr] at h
  | succ f ih =>
    intro wh at_ a b h
    cases wh
    all_goals
      simp only [pr] at h
      grind [What.least]

/-- A reading of an expression comes to an expression. -/
theorem pr_isExp (toks : List Tok) (f : Nat) : ∀ (wh : What) (at_ : Nat) (a : Ast) (b : Nat), pr toks f wh at_ = .ok (a, b) →
    (match wh with | .operand | .expr _ => a.isExp | .rest _ e => e.isExp → a.isExp | _ => True) := by
  induction f with
  | zero => intro wh at_ a b h; simp [pr] at h
  | succ f ih =>
    intro wh at_ a b h
    cases wh
    case operand => simp only [pr] at h; grind [Ast.isExp]
    case expr t =>
      simp only [pr] at h
      split at h
      · simp at h
      · rename_i e a' he
        have h1 := ih _ _ _ _ he
        have h2 := ih _ _ _ _ h
        exact h2 h1
    case rest t e =>
      simp only [pr] at h
      split at h
      · simp only [Except.ok.injEq, Prod.mk.injEq] at h
        intro he
        rw [← h.1]; exact he
      · split at h
        · simp at h
        · intro he
          exact ih _ _ _ _ h trivial
    all_goals trivial

def Ast.isBlk : Ast → Prop
  | .blk .. => True
  | _ => False
def Ast.isStm : Ast → Prop
  | .stm .. => True
  | _ => False
theorem pr_isBlk (toks : List Tok) (f : Nat) : ∀ (at_ : Nat) (a : Ast) (b : Nat), pr toks f .block at_ = .ok (a, b) → a.isBlk := by
  intro at_ a b h
  cases f with
  | zero => simp [pr] at h
  | succ f => simp only [pr] at h; grind [Ast.isBlk]
theorem pr_isStm (toks : List Tok) (f : Nat) : ∀ (wh : What) (at_ : Nat) (a : Ast) (b : Nat), pr toks f wh at_ = .ok (a, b) → (match wh with | .assign | .choice | .stmt => a.isStm | _ => True) := by
  induction f with
  | zero => intro wh at_ a b h; simp [pr] at h
  | succ f ih =>
    intro wh at_ a b h
    cases wh
    all_goals first
      | trivial
      | (simp only [pr] at h; grind [Ast.isStm])
end Go.Proofs.YtgjgaeloehfhiaaGreatDoor
end
section
/- A region that draws its order, walked by a plan: readers first, then the one that must come. Conditions: none. -/
namespace Go.Proofs.YtgjgaeloehfhiaaGreatDoor
open Go.RowKit

theorem AstAt.kp {r : Nat} {w w' : World} {lo hi : Nat} {a : Ast} {v : Value} (g : AstAt w lo hi a v) (h : Kp r w w') (hlo : r < lo) (hhi : hi ≤ w.heap.size) : AstAt w' lo hi a v :=
  h.ast hlo hhi (Nat.le_refl _) (Nat.le_refl _) g
theorem AstAt.set {w : World} {lo hi : Nat} {a : Ast} {v : Value} (g : AstAt w lo hi a v) {p : Addr} (hp : p.block < lo ∨ hi ≤ p.block) (u : Value) : AstAt (w.setCell p u) lo hi a v :=
  g.keep (fun b h1 h2 => Below.heap_setCell _ _ _ _ (by omega)) (Nat.le_refl _) (Nat.le_refl _)
theorem AstAt.wide {w : World} {lo hi lo' hi' : Nat} {a : Ast} {v : Value} (g : AstAt w lo hi a v) (h1 : lo' ≤ lo) (h2 : hi ≤ hi') : AstAt w lo' hi' a v :=
  g.keep (fun _ _ _ => rfl) h1 h2
theorem AstAt.stm1 {w : World} {lo hi k : Nat} {t : Tok} {b : Nat} {ve vf vb vr : Value} {e f bo re : Ast} {link : Bool} (h1 : lo ≤ b) (h2 : b < hi)
    (hc : w.heap[b]? = some (.cells #[.int .i64 k, .int .i64 t.kind, .string t.text, .int .i64 t.line, .int .u32 t.num, ve, vf, vb, vr, .bool link] 150 (0, 0)))
    (g1 : AstAt w lo hi e ve) (g2 : AstAt w lo hi f vf) (g3 : AstAt w lo hi bo vb) (g4 : AstAt w lo hi re vr) : AstAt w lo hi (.stm k t e f bo re link) (.pointer (some ⟨b, 0, none⟩)) :=
  ⟨b, ve, vf, vb, vr, rfl, h1, h2, hc, g1, g2, g3, g4⟩

/-- What an operation waits for by itself. -/
def dirDeps (md : Region.Mode) (ops : Array Oper) (j : Nat) : List Nat :=
  match ops[j]? with
  | some o => (o.after.toList.filter (Region.binds md)).map (·.on)
  | none => []
/-- .. and through others, so many steps. -/
def closeIt (md : Region.Mode) (ops : Array Oper) : Nat → List Nat → List Nat
  | 0, l => l
  | n + 1, l => closeIt md ops n ((l ++ l.flatMap (dirDeps md ops)).eraseDups)
/-- An operation that comes behind all others. -/
def closing (md : Region.Mode) (ops : Array Oper) (j : Nat) : Bool :=
  (List.range ops.size).all fun i => (closeIt md ops 9 [j]).contains i
/-- What was listed had all listed that it waits for. -/
def Listed (md : Region.Mode) (ops : Array Oper) (listed : Array Bool) : Prop := ∀ k, listed.getD k false = true → ∀ i ∈ dirDeps md ops k, listed.getD i false = true

section
variable {P : Program} {ops : Array Oper} {Q : Exit → Act → World → Prop} {md : Region.Mode} {S : World → Prop}

/-- Whatever order is picked; S holds behind every operation but the one that comes last. -/
def wpAnyE (P : Program) (md : Region.Mode) (ops : Array Oper) (Q : Exit → Act → World → Prop) (S : World → Prop) : Nat → Array Bool → Act → World → Prop
  | 0, listed, a, w => Region.ready md ops listed = [] ∧ Q .normal a w
  | fuel + 1, listed, a, w =>
    (Region.ready md ops listed = [] → Q .normal a w) ∧
    ∀ i ∈ Region.ready md ops listed, wpOp P ops Q i (fun a' w' => (closing md ops i = false → S w') ∧ wpAnyE P md ops Q S fuel (listed.setIfInBounds i true) a' w') a w

theorem wpAny_of_E : ∀ (fuel : Nat) (listed : Array Bool) (a : Act) (w : World), wpAnyE P md ops Q S fuel listed a w → wpAny P md ops Q fuel listed a w
  | 0, _, _, _, h => h
  | fuel + 1, _, _, _, h => ⟨h.1, fun i hi => wpOp_mono (fun a' w' h' => wpAny_of_E fuel _ a' w' h'.2) (h.2 i hi)⟩

theorem dirDeps_ready {j : Nat} {listed : Array Bool} (hj : j ∈ Region.ready md ops listed) : ∀ i ∈ dirDeps md ops j, listed.getD i false = true := by
  obtain ⟨_, oj, hoj, hall⟩ := mem_ready.1 hj
  intro i hi
  simp only [dirDeps, hoj, List.mem_map, List.mem_filter, Array.mem_toList_iff] at hi
  obtain ⟨e, ⟨he, hb⟩, rfl⟩ := hi
  exact hall e he hb
theorem Listed.set {j : Nat} {listed : Array Bool} (h : Listed md ops listed) (hj : j ∈ Region.ready md ops listed) : Listed md ops (listed.setIfInBounds j true) := by
  intro k hk i hi
  by_cases hkj : k = j
  · subst hkj; exact getD_set_true (dirDeps_ready hj i hi)
  · refine getD_set_true (h k ?_ i hi)
    have := getD_set_ne (listed := listed) (i := j) (j := k) false (Ne.symm hkj)
    rw [this] at hk
    exact hk
theorem closeIt_listed {j : Nat} {listed : Array Bool} (h : Listed md ops listed) (hj : j ∈ Region.ready md ops listed) : ∀ (n : Nat) (l : List Nat), (∀ i ∈ l, i = j ∨ listed.getD i false = true) →
    ∀ i ∈ closeIt md ops n l, i = j ∨ listed.getD i false = true
  | 0, l, hl => hl
  | n + 1, l, hl => closeIt_listed h hj n _ fun i hi => by
    rw [List.mem_eraseDups, List.mem_append, List.mem_flatMap] at hi
    rcases hi with hi | ⟨k, hk, hi⟩
    · exact hl i hi
    · rcases hl k hk with rfl | hk
      · exact .inr (dirDeps_ready hj i hi)
      · exact .inr (h k hk i hi)
/-- What waits for i can't come before it. -/
theorem not_closing {i j : Nat} {listed : Array Bool} (hL : Listed md ops listed) (hi : i < ops.size) (hun : listed.getD i true = false) (hj : j ∈ Region.ready md ops listed) (hji : j ≠ i) : closing md ops j = false := by
  cases hc : closing md ops j with
  | false => rfl
  | true =>
    simp only [closing, List.all_eq_true, List.mem_range, List.contains_iff_mem] at hc
    rcases closeIt_listed hL hj 9 [j] (fun k hk => by simp at hk; exact .inl hk) i (hc i hi) with h | h
    · exact absurd h.symm hji
    · by_cases hb : i < listed.size
      · simp [hb] at hun h
        rw [hun] at h
        cases h
      · rw [Array.getD_eq_getD_getElem?, Array.getElem?_eq_none (by omega)] at hun; simp at hun

theorem wpAnyE_first {i : Nat} {oi : Oper} {v : Value} (hi : ops[i]? = some oi) (hs : Region.noSelect ops = true) (hQ : ∀ c a w, Q (.panic c) (a.put oi.dst v) w → Q (.panic c) a w) :
    ∀ (fuel : Nat) (listed : Array Bool) (a : Act) (w : World), Region.free md ops listed i = true → Listed md ops listed →
      i ∈ Region.ready md ops listed → YieldsIf P ops S oi v a → S w →
      wpAnyE P md ops Q S fuel (listed.setIfInBounds i true) (a.put oi.dst v) w → wpAnyE P md ops Q S (fuel + 1) listed a w := by
  have hisz : i < ops.size := (Array.getElem?_eq_some_iff.1 hi).1
  have hsel := Region.noSelect_spec hs
  intro fuel listed a w hfr
  have hfree := Region.free_spec hi hfr
  clear hfr
  revert listed a w
  induction fuel with
  | zero =>
    intro listed a w _ _ hr hy hS H
    refine ⟨fun h => (by rw [h] at hr; cases hr), fun j hj => ?_⟩
    by_cases hji : j = i
    · subst hji; exact hy.wpOp hi hS ⟨fun _ => hS, H⟩
    · have := ready_mono hj hji
      rw [H.1] at this
      cases this
  | succ fuel ih =>
    intro listed a w hfree hL hr hy hS H
    refine ⟨fun h => (by rw [h] at hr; cases hr), fun j hj => ?_⟩
    by_cases hji : j = i
    · subst hji; exact hy.wpOp hi hS ⟨fun _ => hS, H⟩
    · have hncl := not_closing hL hisz (mem_ready.1 hr).1 hj hji
      obtain ⟨hjun, oj, hoj, hall⟩ := mem_ready.1 hj
      have hnot : ∀ e ∈ oj.after, Region.binds md e = true → e.on ≠ i := fun e he hb heq => by
        have h1 := hall e he hb
        have h0 := (mem_ready.1 hr).1
        rw [heq] at h1
        by_cases h' : i < listed.size
        · simp [h'] at h0 h1; rw [h0] at h1; cases h1
        · simp [Array.getElem?_eq_none (Nat.le_of_not_lt h')] at h1
      have h2 := wpOp_putIf hoj (hfree j oj hoj hji hjun hnot) (fun cs b => hsel i oi cs b hi) (fun cs b => hsel j oj cs b hoj) hQ hy (H.2 j (ready_mono hj hji))
      refine wpOp_mono (fun a' w' h3 => ⟨fun _ => h3.2.1 hncl, ih (listed.setIfInBounds j true) a' w' (fun k ok hk hki hun hno => hfree k ok hk hki ?_ hno) (hL.set hj) (ready_mono hr (Ne.symm hji)) h3.1 (h3.2.1 hncl) ?_⟩) h2
      · by_cases hjk : j = k
        · subst hjk; exact hjun
        · rw [getD_set_ne true hjk] at hun; exact hun
      · rw [Array.setIfInBounds_comm _ _ hji]
        exact h3.2.2
end

/-- A plan: the operations' numbers; true: one that only reads; false: the only one that may come. -/
def planOK (md : Region.Mode) (ops : Array Oper) (ends : Bool) : List (Nat × Bool) → Array Bool → Bool
  | [], listed => !ends || (Region.ready md ops listed).isEmpty
  | (i, true) :: l, listed => (Region.ready md ops listed).contains i && Region.free md ops listed i && planOK md ops ends l (listed.setIfInBounds i true)
  | (i, false) :: l, listed => (Region.ready md ops listed == [i]) && (closing md ops i || !l.isEmpty || !ends) && planOK md ops ends l (listed.setIfInBounds i true)

/-- The walk by the plan: behind the last operation S is not asked. -/
def wpPlan (P : Program) (ops : Array Oper) (ends : Bool) (Q : Exit → Act → World → Prop) (S : World → Prop) : List (Nat × Bool) → Act → World → Prop
  | [], a, w => ends = true ∧ Q .normal a w
  | (i, true) :: l, a, w => ∃ o v, ops[i]? = some o ∧ YieldsIf P ops S o v a ∧ wpPlan P ops ends Q S l (a.put o.dst v) w
  | (i, false) :: l, a, w => wpOp P ops Q i (fun a' w' => (l ≠ [] → S w') ∧ wpPlan P ops ends Q S l a' w') a w

theorem wpAnyE_of_plan {P : Program} {ops : Array Oper} {Q : Exit → Act → World → Prop} {md : Region.Mode} {S : World → Prop} {ends : Bool}
    (hs : Region.noSelect ops = true) (hQ : ∀ c a d v w, Q (.panic c) (a.put d v) w → Q (.panic c) a w) :
    ∀ (l : List (Nat × Bool)) (fuel : Nat) (listed : Array Bool) (a : Act) (w : World), l.length ≤ fuel → planOK md ops ends l listed = true → Listed md ops listed → (l ≠ [] → S w) →
      wpPlan P ops ends Q S l a w → wpAnyE P md ops Q S fuel listed a w := by
  intro l
  induction l with
  | nil =>
    intro fuel listed a w _ hp _ _ h
    obtain ⟨he, h⟩ := h
    subst he
    have hr : Region.ready md ops listed = [] := by simpa [planOK] using hp
    cases fuel with
    | zero => exact ⟨hr, h⟩
    | succ n => exact ⟨fun _ => h, by rw [hr]; simp⟩
  | cons x l ih =>
    obtain ⟨i, b⟩ := x
    intro fuel listed a w hf hp hL hS h
    have hS2 := hS (by simp)
    obtain ⟨fuel, rfl⟩ : ∃ m, fuel = m + 1 := ⟨fuel - 1, by simp at hf; omega⟩
    simp only [List.length_cons] at hf
    cases b with
    | true =>
      simp only [planOK, Bool.and_eq_true] at hp
      obtain ⟨⟨h1, h2⟩, h3⟩ := hp
      obtain ⟨o, v, ho, hy, h⟩ := h
      exact wpAnyE_first ho hs (fun c a w => hQ c a _ _ w) fuel listed a w h2 hL (by simpa using h1) hy hS2 (ih fuel _ _ _ (by omega) h3 (hL.set (by simpa using h1)) (fun _ => hS2) h)
    | false =>
      simp only [planOK, Bool.and_eq_true, beq_iff_eq] at hp
      obtain ⟨⟨h1, h2⟩, h3⟩ := hp
      refine ⟨fun h0 => (by rw [h1] at h0; cases h0), fun j hj => ?_⟩
      rw [h1] at hj
      simp only [List.mem_singleton] at hj
      subst hj
      refine wpOp_mono (fun a' w' hh => ⟨fun hc => ?_, ih fuel _ _ _ (by omega) h3 (hL.set (by rw [h1]; simp)) hh.1 hh.2⟩) h
      rw [hc] at h2
      by_cases hl : l = []
      · subst hl
        have he : ends = true := hh.2.1
        subst he
        simp at h2
      · exact hh.1 hl

theorem wp_region_plan {P : Program} {id : Nat} {ops : Array Oper} {Q : Exit → Act → World → Prop} {a : Act} {w : World} (S : World → Prop) (plan : List (Nat × Bool)) (ends : Bool)
    (hm : P.follows .mixedOrders = true) (hp : (Region.noSelect ops && decide (plan.length ≤ ops.size) && planOK .any ops ends plan (Array.replicate ops.size false)) = true)
    (hQ : ∀ c a d v w, Q (.panic c) (a.put d v) w → Q (.panic c) a w) (hS : S w.drew) (h : wpPlan P ops ends Q S plan a w.drew) : (Code.region id ops true).wp P Q a w := by
  simp only [Bool.and_eq_true, decide_eq_true_eq] at hp
  exact wp_region_any hm (wpAny_of_E _ _ _ _ (wpAnyE_of_plan hp.1.1 hQ plan _ _ a _ hp.1.2 hp.2 (fun k hk => by simp [Array.getElem?_replicate] at hk; split at hk <;> simp at hk) (fun _ => hS) h))

theorem wpPlan_act {P : Program} {ops : Array Oper} {Q : Exit → Act → World → Prop} {S : World → Prop} {ends : Bool} {i : Nat} {l : List (Nat × Bool)} {a : Act} {w : World} {o : Oper}
    (ho : ops[i]? = some o) (hw : Region.wanted o (yielded ops a.tmps) = true) (h : ∀ K : Act → World → Prop, (∀ a' w', (l ≠ [] → S w') → wpPlan P ops ends Q S l a' w' → K a' w') → o.wp P a w K Q) :
    wpPlan P ops ends Q S ((i, false) :: l) a w := by
  show wpOp P ops Q i _ a w
  unfold wpOp
  simp only [ho]
  rw [if_pos hw]
  exact .inl (h _ fun a' w' h1 h2 => ⟨h1, h2⟩)

/-- An operation that is passed over: its guard says no. -/
theorem wpPlan_pass {P : Program} {ops : Array Oper} {Q : Exit → Act → World → Prop} {S : World → Prop} {ends : Bool} {i : Nat} {l : List (Nat × Bool)} {a : Act} {w : World} {o : Oper}
    (ho : ops[i]? = some o) (hw : Region.wanted o (yielded ops a.tmps) = false) (hS : l ≠ [] → S w) (h : wpPlan P ops ends Q S l (a.put o.dst undef) w) :
    wpPlan P ops ends Q S ((i, false) :: l) a w := by
  show wpOp P ops Q i _ a w
  unfold wpOp
  simp only [ho]
  rw [if_neg (by rw [hw]; simp)]
  exact ⟨hS, h⟩

end Go.Proofs.YtgjgaeloehfhiaaGreatDoor
end
section
/- A whole array read out of a variable, by its cells; the levels of operators. -/
namespace Go.Proofs.YtgjgaeloehfhiaaGreatDoor
open Go.RowKit

/-- The cells of a block from its beginning. -/
def CellsAt (w : World) (g : Nat) (cs : List Value) : Prop := g < w.heap.size ∧ ∀ (j : Nat) v, cs[j]? = some v → w.cell? ⟨g, j, none⟩ = some v

theorem CellsAt.keep {w w' : World} {g : Nat} {cs : List Value} (h : CellsAt w g cs) (hb : Ext w w') : CellsAt w' g cs :=
  ⟨Nat.lt_of_lt_of_le h.1 hb.size, fun j v hv => (hb.cell g j h.1).trans (h.2 j v hv)⟩

theorem add0 (g j : Nat) : (⟨g, 0, none⟩ : Addr).add j = ⟨g, j, none⟩ := by unfold Addr.add; split <;> simp_all

theorem run_loadVar_cells (w : World) (g : Nat) (ty : TypeId) (cs : List Value) (d : TypeDesc) (hg : CellsAt w g cs)
    (hu : Tryz.prog.underlying ty = some d) (hd : (match d with | .struct _ | .array _ _ => true | _ => false) = true) (hi : (Tryz.prog.info? ty).map (·.size) = some cs.length) :
    (loadVar ty ⟨g, 0, none⟩).run Tryz.prog w = .ok (.agg cs.toArray) w := by
  have hl : (loadCells ⟨g, 0, none⟩ cs.length).run Tryz.prog w = .ok cs.toArray w :=
    run_loadCells_list (P := Tryz.prog) w ⟨g, 0, none⟩ cs (fun j v hv => by
      rw [add0]; exact hg.2 j v hv)
  cases hq : Tryz.prog.info? ty with
  | none => simp [hq] at hi
  | some i =>
    have hs : i.size = cs.length := by simpa [hq] using hi
    have hagg : (isAgg ty).run Tryz.prog w = .ok true w := by
      unfold isAgg
      rw [Sem.run_bind, run_underlying hu w]
      cases d <;> simp_all
    simp [loadVar, Sem.run_bind, hagg, sizeOf, typeInfo, hq, hs, hl]

theorem wpList_load_cells {ops : Array Oper} {rest : List Oper} {o : Oper} {a : Act} {w : World} {Q : Exit → Act → World → Prop} (hgd : o.guard = none) (ty : TypeId) (x : Operand) (ho : o.op = .load ty x)
    (g : Nat) (hx : a.eval x = .pointer (some ⟨g, 0, none⟩)) (cs : List Value) (d : TypeDesc) (hg : CellsAt w g cs)
    (hu : Tryz.prog.underlying ty = some d) (hd : (match d with | .struct _ | .array _ _ => true | _ => false) = true) (hi : (Tryz.prog.info? ty).map (·.size) = some cs.length)
    (h : wpList Tryz.prog ops Q rest (a.put o.dst (.agg cs.toArray)) w) : wpList Tryz.prog ops Q (o :: rest) a w :=
  wpList_plain hgd fun _ hK => by
    unfold Oper.wp execOp
    simp only [ho, hx, Instr.loadAt, Instr.sureAddr, Sem.run_bind, Sem.run_pure, Result.andThen_ok, run_loadVar_cells w g ty cs d hg hu hd hi]
    exact hK _ _ h

abbrev strV (l : List UInt8) : Value := .string ⟨l.toArray⟩
def opsV : List Value := opsT.flatMap fun x => [strV x.1, .int .i64 x.2]

theorem ops_index (i : Nat) (h : i < 18) (w : World) : (Instr.index 236 (.agg opsV.toArray) (.int .i64 i)).run Tryz.prog w = .ok (.agg #[strV (opsT.getD i default).1, .int .i64 (opsT.getD i default).2]) w := by
  obtain rfl | rfl | rfl | rfl | rfl | rfl | rfl | rfl | rfl | rfl | rfl | rfl | rfl | rfl | rfl | rfl | rfl | rfl : i = 0 ∨ i = 1 ∨ i = 2 ∨ i = 3 ∨ i = 4 ∨ i = 5 ∨ i = 6 ∨ i = 7 ∨ i = 8 ∨ i = 9 ∨ i = 10 ∨ i = 11 ∨ i = 12 ∨ i = 13 ∨ i = 14 ∨ i = 15 ∨ i = 16 ∨ i = 17 := by omega
  all_goals kernel_rfl

theorem tightIn_drop (s : List UInt8) (i : Nat) (h : i < 18) : tightIn (opsT.drop i) s = if (opsT.getD i default).1 = s then (opsT.getD i default).2 else tightIn (opsT.drop (i + 1)) s := by
  have hl : i < opsT.length := h
  rw [List.drop_eq_getElem_cons hl]
  simp [tightIn, hl]

def simpleV : List Value := simpleT.flatMap fun x => [strV x.1, .int .i64 x.2.1, .bool x.2.2]
theorem simple_index (i : Nat) (h : i < 5) (w : World) : (Instr.index 193 (.agg simpleV.toArray) (.int .i64 i)).run Tryz.prog w = .ok (.agg #[strV (simpleT.getD i default).1, .int .i64 (simpleT.getD i default).2.1, .bool (simpleT.getD i default).2.2]) w := by
  obtain rfl | rfl | rfl | rfl | rfl : i = 0 ∨ i = 1 ∨ i = 2 ∨ i = 3 ∨ i = 4 := by omega
  all_goals kernel_rfl
theorem simpleIn_drop (t : Tok) (i : Nat) (h : i < 5) : simpleIn t (simpleT.drop i) = if isB t ⟨(simpleT.getD i default).1.toArray⟩ then some (simpleT.getD i default).2 else simpleIn t (simpleT.drop (i + 1)) := by
  have hl : i < simpleT.length := h
  rw [List.drop_eq_getElem_cons hl]
  simp [simpleIn, hl]

/-- The words of the language; the signs of two bytes. -/
def wordsT : List (List UInt8) := [[118, 97, 114], [105, 102], [101, 108, 115, 101], [119, 104, 105, 108, 101], [101, 109, 105, 116], [115, 116, 111, 112], [121, 105, 101, 108, 100], [98, 114, 101, 97, 107], [99, 111, 110, 116, 105, 110, 117, 101], [97, 115, 107]]
def pairsT : List (List UInt8) := [[124, 124], [38, 38], [61, 61], [33, 61], [60, 61], [62, 61], [60, 60], [62, 62]]
def wordsV : List Value := wordsT.map strV
def pairsV : List Value := pairsT.map strV
/-- The operations of the machine: name, registers a and b, how imm is used, whether it is a distance. -/
def isaT : List (List UInt8 × Bool × Bool × Nat × Bool) := [([], false, false, 0, false), ([110, 111, 112], false, false, 0, false), ([108, 105], true, false, 2, false), ([104, 105], true, false, 1, false), ([109, 111, 118], true, true, 0, false), ([97, 100, 100], true, true, 0, false), ([115, 117, 98], true, true, 0, false), ([109, 117, 108], true, true, 0, false), ([100, 105, 118], true, true, 0, false), ([114, 101, 109], true, true, 0, false), ([97, 110, 100], true, true, 0, false), ([111, 114], true, true, 0, false), ([120, 111, 114], true, true, 0, false), ([115, 104, 108], true, true, 0, false), ([115, 104, 114], true, true, 0, false), ([108, 116], true, true, 0, false), ([115, 108, 116], true, true, 0, false), ([101, 113], true, true, 0, false), ([97, 100, 100, 105], true, false, 2, false), ([108, 100], true, true, 2, false), ([115, 116], true, true, 2, false), ([106, 109, 112], false, false, 2, true), ([106, 122], true, false, 2, true), ([106, 110, 122], true, false, 2, true), ([106, 114], true, false, 0, false), ([99, 97, 108, 108], true, false, 2, true), ([115, 121, 115], false, false, 1, false)]
def isaV : List Value := isaT.flatMap fun x => [strV x.1, .bool x.2.1, .bool x.2.2.1, .int .i64 x.2.2.2.1, .bool x.2.2.2.2]
def pow10T : List Nat := [1, 10, 100, 1000, 10000, 100000, 1000000, 10000000, 100000000, 1000000000, 10000000000, 100000000000, 1000000000000, 10000000000000, 100000000000000, 1000000000000000, 10000000000000000, 100000000000000000, 1000000000000000000, 10000000000000000000]
def pow10V : List Value := pow10T.map fun (n : Nat) => Value.int .u64 (n : Int)

/-- What the program's tables hold when the law is called. -/
structure Laid (w : World) : Prop where
  ops : CellsAt w 4 opsV
  simple : CellsAt w 1 simpleV
  words : CellsAt w 6 wordsV
  pairs : CellsAt w 2 pairsV
  isa : CellsAt w 0 isaV
  pow10 : CellsAt w 3 pow10V
  esyn : ∃ te pe, CellsAt w 12 [.iface te pe]
  erng : ∃ te pe, CellsAt w 13 [.iface te pe]
  maxlen : ∃ m, CellsAt w 5 [.int .i64 m]

/-- A world behind the law's beginning: its first N blocks are as they were, the tables among them. -/
def Gl (N : Nat) (w : World) : Prop := ∃ w0, Laid w0 ∧ w0.heap.size = N ∧ Below N w0 w

theorem Gl.ext {N : Nat} {w w' : World} (h : Gl N w) (k : Ext w w') : Gl N w' :=
  let ⟨w0, a, b, c⟩ := h
  ⟨w0, a, b, c.trans (k.below.mono (by rw [← b]; exact c.size))⟩
theorem Gl.kp {N r : Nat} {w w' : World} (h : Gl N w) (hr : N ≤ r) (k : Kp r w w') : Gl N w' :=
  let ⟨w0, a, b, c⟩ := h
  ⟨w0, a, b, c.trans ⟨k.os, k.tape, k.output, k.size, fun i hi => k.block i (by have := c.size; omega) (by omega)⟩⟩
theorem Gl.cells {N : Nat} {w w0 : World} {g : Nat} {cs : List Value} (hg : CellsAt w0 g cs) (b : w0.heap.size = N) (c : Below N w0 w) : CellsAt w g cs :=
  ⟨by have := c.size; have := hg.1; omega, fun j v hv => (c.cell (p := ⟨g, j, none⟩) (by have := hg.1; show g < N; omega)).trans (hg.2 j v hv)⟩
theorem Gl.simple {N : Nat} {w : World} (h : Gl N w) : CellsAt w 1 simpleV := let ⟨_, a, b, c⟩ := h; Gl.cells a.simple b c
theorem Gl.words {N : Nat} {w : World} (h : Gl N w) : CellsAt w 6 wordsV := let ⟨_, a, b, c⟩ := h; Gl.cells a.words b c
theorem Gl.pairs {N : Nat} {w : World} (h : Gl N w) : CellsAt w 2 pairsV := let ⟨_, a, b, c⟩ := h; Gl.cells a.pairs b c
theorem Gl.isa {N : Nat} {w : World} (h : Gl N w) : CellsAt w 0 isaV := let ⟨_, a, b, c⟩ := h; Gl.cells a.isa b c
theorem Gl.pow10 {N : Nat} {w : World} (h : Gl N w) : CellsAt w 3 pow10V := let ⟨_, a, b, c⟩ := h; Gl.cells a.pow10 b c
theorem Gl.esyn {N : Nat} {w : World} (h : Gl N w) : ∃ te pe, CellsAt w 12 [.iface te pe] := let ⟨_, a, b, c⟩ := h; let ⟨te, pe, g⟩ := a.esyn; ⟨te, pe, Gl.cells g b c⟩
theorem Gl.erng {N : Nat} {w : World} (h : Gl N w) : ∃ te pe, CellsAt w 13 [.iface te pe] := let ⟨_, a, b, c⟩ := h; let ⟨te, pe, g⟩ := a.erng; ⟨te, pe, Gl.cells g b c⟩
theorem Gl.maxlen {N : Nat} {w : World} (h : Gl N w) : ∃ m, CellsAt w 5 [.int .i64 m] := let ⟨_, a, b, c⟩ := h; let ⟨m, g⟩ := a.maxlen; ⟨m, Gl.cells g b c⟩
theorem Gl.ops {N : Nat} {w : World} (h : Gl N w) : CellsAt w 4 opsV := let ⟨_, a, b, c⟩ := h; Gl.cells a.ops b c

set_option maxRecDepth 100000 in
set_option maxHeartbeats 800000 in
theorem tightness_any (w : World) (s : ByteArray) (hg : CellsAt w 4 opsV) :
    Calls Tryz.prog 115 #[.string s] w fun e w' => e = .returned (.int .i64 (tightF s.toList)) ∧ Ext w w' := by
  have hix := ops_index
  generalize hV : opsV = V at *
  have hlen : V.length = 36 := by rw [← hV]; rfl
  go_enter Tryz.func115, Tryz.ntmps115
  go_wp2_with (refine wpList_load_cells rfl 236 _ rfl 4 rfl V (.array 18 235) hg (by kernel_rfl) rfl (by rw [hlen]; kernel_rfl) ?_)
  go_loopw [6] (fun v wr => ∃ k : Nat, k ≤ 18 ∧ v = .int .i64 k ∧ Ext w wr ∧ tightIn (opsT.drop k) s.toList = tightF s.toList) (fun v _ => 18 - (intOf v).toNat)
  case atStart => exact ⟨0, by omega, rfl, Ext.refl w, rfl⟩
  case round =>
    obtain ⟨k, hk, rfl, hb, ht⟩ := hrel
    by_cases hlt : k < 18
    · have hd := tightIn_drop s.toList k hlt
      have hx := hix k hlt
      clear hix
      by_cases he : (opsT.getD k default).1 = s.toList
      · rw [if_pos he] at hd
        have Hd := Lib.hid (ht.symm.trans hd)
        clear hd ht
        generalize opsT.getD k default = x at *
        obtain ⟨x1, x2⟩ := x
        simp only at he Hd
        go_wp2
        go_ret
        exact ⟨ret_int (by rw [Hd.out]), hb.alloc _⟩
      · rw [if_neg he] at hd
        have Hd := Lib.hid (hd.symm.trans ht)
        clear hd ht
        generalize opsT.getD k default = x at *
        obtain ⟨x1, x2⟩ := x
        simp only at he
        have hf : (x1 == s.toList) = false := by simpa using he
        go_wp2
        exact ⟨⟨k + 1, by omega, by go_num, hb.alloc _, Hd.out⟩, by simp [intOf]; omega⟩
    · have hk' : k = 18 := by omega
      subst hk'
      have h0 : tightF s.toList = 0 := ht.symm
      have Hd := Lib.hid h0
      clear h0 ht hix
      go_wp2
      go_ret
      exact ⟨ret_int (by rw [Hd.out]; rfl), hb⟩
end Go.Proofs.YtgjgaeloehfhiaaGreatDoor
end
