/- The tokens of trees have lines; a source's fault has a line, or it is one of size. -/
import Derived.Test.YtgjgaeloehfhiaaGreatDoorM32
import Derived.Test.YtgjgaeloehfhiaaGreatDoorM10
section
namespace Go.Proofs.YtgjgaeloehfhiaaGreatDoor
open Go.RowKit

/-- Each token of a tree has a line. -/
def Ast.lined : Ast → Prop
  | .exp _ t _ l r => 1 ≤ t.line ∧ l.lined ∧ r.lined
  | .stm _ t e f b r _ => 1 ≤ t.line ∧ e.lined ∧ f.lined ∧ b.lined ∧ r.lined
  | .blk _ l => l.lined
  | .cons h t => h.lined ∧ t.lined
  | _ => True
theorem lined_ofList : ∀ l : List Ast, (∀ a ∈ l, a.lined) → (ofList l).lined
  | [], _ => trivial
  | a :: l, h => ⟨h a (by simp), lined_ofList l fun x hx => h x (by simp [hx])⟩

/-- What is claimed of a part. -/
def What.lines (toks : List Tok) (p : Nat) : What → Ast → Prop
  | .rest _ e, a => e.lined → a.lined
  | .stmts acc, a => (∀ x ∈ acc, x.lined) → a.lined
  | .assign, a => (toks.getD p default).kind = 2 → a.lined
  | _, a => a.lined

theorem isB_default {s : List UInt8} (hs : s ≠ []) : isB (default : Tok) ⟨s.toArray⟩ = false := by
  have h : (⟨s.toArray⟩ : ByteArray).toList = s := by rw [ByteArray.toList_eq]
  have h0 : (default : Tok).text.toList = [] := by rw [ByteArray.toList_eq]; rfl
  unfold isB
  rw [h, h0]
  cases s with
  | nil => exact absurd rfl hs
  | cons a l => simp

set_option maxHeartbeats 8000000 in
theorem pr_lined {toks : List Tok} (hl : ∀ i, i < toks.length → 1 ≤ (toks.getD i default).line) (f : Nat) : ∀ (wh : What) (p : Nat) (a : Ast) (b : Nat), pr toks f wh p = .ok (a, b) → wh.lines toks p a := by
  have hd : ∀ i, ¬ i < toks.length → toks.getD i default = default := fun i hi => by rw [List.getD_eq_getElem?_getD, List.getElem?_eq_none (by omega)]; rfl
  have k2 : ∀ i, (toks.getD i default).kind = 2 → 1 ≤ (toks.getD i default).line := fun i h => by
    by_cases hi : i < toks.length
    · exact hl i hi
    · rw [hd i hi] at h; cases h
  have k3 : ∀ i, (toks.getD i default).kind = 3 → 1 ≤ (toks.getD i default).line := fun i h => by
    by_cases hi : i < toks.length
    · exact hl i hi
    · rw [hd i hi] at h; cases h
  have kB : ∀ (s : List UInt8), s ≠ [] → ∀ i, isB (toks.getD i default) ⟨s.toArray⟩ = true → 1 ≤ (toks.getD i default).line := fun s hs i h => by
    by_cases hi : i < toks.length
    · exact hl i hi
    · rw [hd i hi, isB_default hs] at h; cases h
  have b1 := kB [97, 115, 107] (by simp)
  have b2 := kB [40] (by simp)
  have b3 := kB [45] (by simp)
  have b4 := kB [33] (by simp)
  have b5 := kB [126] (by simp)
  have b6 := kB [105, 102] (by simp)
  have b7 := kB [123] (by simp)
  have b8 := kB [119, 104, 105, 108, 101] (by simp)
  have kT : ∀ i, tightOf (toks.getD i default) ≠ 0 → 1 ≤ (toks.getD i default).line := fun i h => by
    by_cases hi : i < toks.length
    · exact hl i hi
    · rw [hd i hi] at h
      refine absurd ?_ h
      show (if (default : Tok).kind = 0 then tightF (default : Tok).text.toList else 0) = 0
      rw [ByteArray.toList_eq]; rfl
  have kS : ∀ i x, simpleOf (toks.getD i default) = some x → 1 ≤ (toks.getD i default).line := fun i x h => by
    by_cases hi : i < toks.length
    · exact hl i hi
    · rw [hd i hi] at h
      simp only [simpleOf, simpleT, simpleIn, isB_default (s := [101, 109, 105, 116]) (by simp), isB_default (s := [115, 116, 111, 112]) (by simp), isB_default (s := [121, 105, 101, 108, 100]) (by simp), isB_default (s := [98, 114, 101, 97, 107]) (by simp), isB_default (s := [99, 111, 110, 116, 105, 110, 117, 101]) (by simp)] at h
      cases h
  clear kB hd hl
  induction f with
  | zero => intro wh p a b h; simp [pr] at h
  | succ f ih =>
    intro wh p a b h
    cases wh with
    | operand =>
      simp only [pr] at h
      have e1 := fun (x : Nat) (u : Ast) (v : Nat) (hh : pr toks f (.expr 1) x = .ok (u, v)) => ih _ _ _ _ hh
      have e2 := fun (x : Nat) (u : Ast) (v : Nat) (hh : pr toks f .operand x = .ok (u, v)) => ih _ _ _ _ hh
      simp only [What.lines] at e1 e2 ⊢
      grind [Ast.lined]
    | expr t =>
      simp only [pr] at h
      have e1 := fun (x : Nat) (u : Ast) (v : Nat) (hh : pr toks f .operand x = .ok (u, v)) => ih _ _ _ _ hh
      have e2 := fun (x : Nat) (e u : Ast) (v : Nat) (hh : pr toks f (.rest t e) x = .ok (u, v)) => ih _ _ _ _ hh
      simp only [What.lines] at e1 e2 ⊢
      grind
    | rest t e =>
      simp only [pr] at h
      have e1 := fun (tt x : Nat) (u : Ast) (v : Nat) (hh : pr toks f (.expr tt) x = .ok (u, v)) => ih _ _ _ _ hh
      have e2 := fun (x : Nat) (e u : Ast) (v : Nat) (hh : pr toks f (.rest t e) x = .ok (u, v)) => ih _ _ _ _ hh
      simp only [What.lines] at e1 e2 ⊢
      intro he
      grind [Ast.lined]
    | assign =>
      simp only [pr] at h
      have e1 := fun (x : Nat) (u : Ast) (v : Nat) (hh : pr toks f (.expr 1) x = .ok (u, v)) => ih _ _ _ _ hh
      simp only [What.lines] at e1 ⊢
      intro hk
      have := k2 _ hk
      grind [Ast.lined]
    | choice =>
      simp only [pr] at h
      have e1 := fun (x : Nat) (u : Ast) (v : Nat) (hh : pr toks f (.expr 1) x = .ok (u, v)) => ih _ _ _ _ hh
      have e2 := fun (x : Nat) (u : Ast) (v : Nat) (hh : pr toks f .block x = .ok (u, v)) => ih _ _ _ _ hh
      have e3 := fun (x : Nat) (u : Ast) (v : Nat) (hh : pr toks f .choice x = .ok (u, v)) => ih _ _ _ _ hh
      simp only [What.lines] at e1 e2 e3 ⊢
      split at h
      · rename_i q1
        have h1 := b6 _ q1
        split at h
        · cases h
        · rename_i e a1 q2
          have h2 := e1 _ _ _ q2
          split at h
          · cases h
          · rename_i b1' c q3
            have h3 := e2 _ _ _ q3
            split at h
            · split at h
              · split at h
                · cases h
                · rename_i s d q6
                  have h6 := e3 _ _ _ q6
                  cases h
                  exact ⟨h1, h2, trivial, h3, h6, trivial⟩
              · split at h
                · cases h
                · rename_i s d q6
                  have h6 := e2 _ _ _ q6
                  cases h
                  exact ⟨h1, h2, trivial, h3, h6⟩
            · cases h
              exact ⟨h1, h2, trivial, h3, trivial⟩
      · cases h
    | block =>
      simp only [pr] at h
      have e1 := fun (x : Nat) (u : Ast) (v : Nat) (hh : pr toks f (.stmts []) x = .ok (u, v)) => (show u.lined from ih _ _ _ _ hh (fun _ hx => by simp at hx))
      simp only [What.lines]
      grind [Ast.lined]
    | stmts acc =>
      simp only [pr] at h
      intro hacc
      split at h
      · simp only [Except.ok.injEq, Prod.mk.injEq] at h
        rw [← h.1]
        exact lined_ofList acc hacc
      · split at h
        · simp at h
        · rename_i s x hs
          have h1 : s.lined := ih _ _ _ _ hs
          refine (show (∀ x ∈ acc ++ [s], x.lined) → a.lined from ih _ _ _ _ h) ?_
          intro y hy
          rcases List.mem_append.1 hy with hy | hy
          · exact hacc y hy
          · simp only [List.mem_singleton] at hy; exact hy ▸ h1
    | stmt =>
      simp only [pr] at h
      have e0 := fun (x : Nat) (u : Ast) (v : Nat) (hh : pr toks f .assign x = .ok (u, v)) => ih _ _ _ _ hh
      have e1 := fun (x : Nat) (u : Ast) (v : Nat) (hh : pr toks f (.expr 1) x = .ok (u, v)) => ih _ _ _ _ hh
      have e2 := fun (x : Nat) (u : Ast) (v : Nat) (hh : pr toks f .block x = .ok (u, v)) => ih _ _ _ _ hh
      have e3 := fun (x : Nat) (u : Ast) (v : Nat) (hh : pr toks f .choice x = .ok (u, v)) => ih _ _ _ _ hh
      have e4 := kS p
      simp only [What.lines] at e0 e1 e2 e3 ⊢
      grind [Ast.lined]
end Go.Proofs.YtgjgaeloehfhiaaGreatDoor
end
section
/- A source's fault: its number; its line. -/
namespace Go.Proofs.YtgjgaeloehfhiaaGreatDoor
open Go.RowKit

/-- A fault that the law lets by. -/
def FaultOK (p : Nat × Nat) : Prop := (p.2 = 230 ∨ p.2 = 231 ∨ p.2 = 232) ∧ (1 ≤ p.1 ∨ p.2 = 232)

theorem usedF_line {L : Places} {t : Tok} {ix : Bool} {p : Nat × Nat} (h : usedF L t ix = some p) (hl : 1 ≤ t.line) : FaultOK p := by
  unfold usedF at h
  split at h
  · cases h; exact ⟨.inr (.inl rfl), .inl hl⟩
  · split at h
    · cases h
    · cases h; exact ⟨.inr (.inl rfl), .inl hl⟩
theorem or_cases {α : Type} {a b : Option α} {x : α} (h : a.or b = some x) : a = some x ∨ b = some x := by
  cases a with
  | none => exact .inr h
  | some y => exact .inl h
theorem namedF_line (L : Places) (p : Nat × Nat) : ∀ a : Ast, a.lined → namedF L a = some p → FaultOK p := by
  intro a
  induction a with
  | exp k t ln l r ihl ihr =>
    intro hl h
    simp only [namedF] at h
    rcases or_cases h with h | h
    · split at h
      · exact usedF_line h hl.1
      · cases h
    · rcases or_cases h with h | h
      · exact ihl hl.2.1 h
      · exact ihr hl.2.2 h
  | _ => intro _ h; cases h
theorem chkF_line (L : Places) (p : Nat × Nat) : ∀ (a : Ast) (loops : Nat), a.lined → chkF L a loops = some p → FaultOK p := by
  intro a
  induction a with
  | stm k t e f b r link ihe ihf ihb ihr =>
    intro loops hl h
    obtain ⟨h1, h2, h3, h4, h5⟩ := hl
    simp only [chkF] at h
    rcases or_cases h with h | h
    · split at h
      · exact usedF_line h h1
      · split at h
        · cases h; exact ⟨.inr (.inl rfl), .inl h1⟩
        · cases h
    · rcases or_cases h with h | h
      · exact namedF_line L p e h2 h
      · rcases or_cases h with h | h
        · exact namedF_line L p f h3 h
        · rcases or_cases h with h | h
          · exact ihb _ h4 h
          · exact ihr _ h5 h
  | blk ln l ih => intro loops hl h; exact ih loops hl h
  | cons x t ih1 ih2 =>
    intro loops hl h
    simp only [chkF] at h
    rcases or_cases h with h | h
    · exact ih1 loops hl.1 h
    · exact ih2 loops hl.2 h
  | _ => intro loops _ h; cases h
theorem placesF_line (p : Nat × Nat) : ∀ (ds : List (Tok × Nat)) (at_ : Nat) (L0 : Places), (∀ d ∈ ds, 1 ≤ d.1.line) → placesF ds at_ L0 = .error p → FaultOK p
  | [], at_, L0, _, h => by cases h
  | d :: ds, at_, L0, hd, h => by
    simp only [placesF] at h
    split at h
    · cases h; exact ⟨.inr (.inl rfl), .inl (hd d (by simp))⟩
    · exact placesF_line p ds _ _ (fun x hx => hd x (by simp [hx])) h
theorem dataF_code (p : Nat × Nat) : ∀ (ds : List (Tok × Nat)) (sum : Nat), dataF ds sum = some p → p.2 = 232
  | [], _, h => by cases h
  | d :: ds, sum, h => by
    simp only [dataF] at h
    split at h
    · cases h; rfl
    · exact dataF_code p ds _ h
theorem deepF_code {p : Nat × Nat} {a : Ast} (h : deepF a = some p) : p.2 = 232 := by
  unfold deepF at h
  split at h
  · cases h; rfl
  · cases h
theorem dpF_code (p : Nat × Nat) : ∀ (a : Ast) (n : Nat) (lk : Bool), dpF a n lk = some p → p.2 = 232 := by
  intro a
  induction a with
  | stm k t e f b r link ihe ihf ihb ihr =>
    intro n lk h
    simp only [dpF] at h
    rcases or_cases h with h | h
    · rcases or_cases h with h | h
      · exact deepF_code h
      · exact deepF_code h
    · rcases or_cases h with h | h
      · exact ihb _ _ h
      · exact ihr _ _ h
  | blk ln l ih =>
    intro n lk h
    simp only [dpF] at h
    split at h
    · exact ih _ _ h
    · split at h
      · cases h; rfl
      · exact ih _ _ h
  | cons x t ih1 ih2 =>
    intro n lk h
    simp only [dpF] at h
    rcases or_cases h with h | h
    · exact ih1 _ _ h
    · exact ih2 _ _ h
  | _ => intro n lk h; cases h

theorem decl_line {toks : List Tok} (hT : Ends toks) {p : Nat} (hp : p < toks.length) {d : Tok × Nat} {b : Nat} (h : prDecl toks p = .ok (d, b)) : 1 ≤ d.1.line := by
  simp only [prDecl] at h
  split at h
  · rename_i q1
    have h1 := hT.isB hp q1
    have h2 := hT.line _ h1
    split at h
    · split at h
      · split at h
        · split at h
          · split at h
            · cases h; exact h2
            · cases h
          · cases h
        · cases h
      · split at h
        · cases h; exact h2
        · cases h
    · cases h
  · cases h
theorem decls_line {toks : List Tok} (hT : Ends toks) (hf : ∀ i, (toks.getD i default).fit) : ∀ (f p : Nat) (acc : List (Tok × Nat)), p < toks.length → (∀ d ∈ acc, 1 ≤ d.1.line) → ∀ ds b, prDecls toks f p acc = .ok (ds, b) → ∀ d ∈ ds, 1 ≤ d.1.line
  | 0, p, acc, hp, _ => fun ds b h => by cases h
  | f + 1, p, acc, hp, hacc => fun ds b h => by
    simp only [prDecls] at h
    split at h
    · split at h
      · cases h
      · rename_i d a q
        refine decls_line hT hf f a (acc ++ [d]) ((decl_ok hT hf hp).1 d a q).1 (fun x hx => ?_) ds b h
        rcases List.mem_append.1 hx with hx | hx
        · exact hacc x hx
        · simp only [List.mem_singleton] at hx; rw [hx]; exact decl_line hT hp q
    · cases h; exact hacc
theorem body_line {toks : List Tok} (hT : Ends toks) : ∀ (f p : Nat) (acc : List Ast), (∀ x ∈ acc, x.lined) → ∀ l, prBody toks f p acc = .ok l → ∀ x ∈ l, x.lined
  | 0, p, acc, _ => fun l h => by cases h
  | f + 1, p, acc, hacc => fun l h => by
    simp only [prBody] at h
    split at h
    · cases h; exact hacc
    · split at h
      · cases h
      · rename_i s a q
        refine body_line hT f a (acc ++ [s]) (fun x hx => ?_) l h
        rcases List.mem_append.1 hx with hx | hx
        · exact hacc x hx
        · simp only [List.mem_singleton] at hx; rw [hx]; exact pr_lined hT.line _ .stmt p s a q

theorem readF_line (s : ByteArray) (hs : s.size ≤ 90000) {ds : List (Tok × Nat)} {l : List Ast} (h : readF (cutF s) = .ok (ds, l)) : (∀ d ∈ ds, 1 ≤ d.1.line) ∧ (ofList l).lined := by
  have hk := cutF_ok s
  have hT : Ends (cutF s) := Ends.of (fun t ht => (hk.all t ht).line0) hk.fin
  have hf : ∀ i, ((cutF s).getD i default).fit := fun i => by
    by_cases hi : i < (cutF s).length
    · have : (cutF s).getD i default = (cutF s)[i] := by simp [List.getD_eq_getElem?_getD, hi]
      rw [this]
      have ht := hk.all _ (List.getElem_mem hi)
      exact ⟨by have := ht.text; omega, ht.num⟩
    · rw [List.getD_eq_getElem?_getD, List.getElem?_eq_none (by omega)]
      exact ⟨by show (0 : Nat) ≤ _; omega, by show (0 : Nat) < _; omega⟩
  simp only [readF] at h
  split at h
  · cases h
  · rename_i ds' a q
    split at h
    · cases h
    · rename_i l' q2
      cases h
      exact ⟨decls_line hT hf _ 0 [] hk.ne (by simp) _ _ q, lined_ofList _ (body_line hT _ _ [] (by simp) _ q2)⟩

theorem takenF_err {s : ByteArray} {ln code : Nat} (h : takenF s = .error (ln, code)) : (code = 230 ∨ code = 231 ∨ code = 232) ∧ (1 ≤ ln ∨ code = 232) := by
  unfold takenF at h
  split at h
  · cases h; exact ⟨.inr (.inr rfl), .inr rfl⟩
  · rename_i hs
    obtain ⟨r1, r2⟩ := readF_ok s (by omega)
    split at h
    · rename_i n q; cases h; exact ⟨.inl rfl, .inl (r2 _ q)⟩
    · rename_i ds l q
      obtain ⟨hd, hl⟩ := readF_line s (by omega) q
      unfold taken1F at h
      split at h
      · rename_i p q2
        cases h
        simp only [namesF] at q2
        split at q2
        · rename_i p' q3
          cases q2
          exact placesF_line _ _ _ _ hd q3
        · rename_i L q3
          cases hc : chkF L (ofList l) 0 with
          | none => rw [hc] at q2; cases q2
          | some p => rw [hc] at q2; cases q2; exact chkF_line L _ _ 0 hl hc
      · split at h
        · rename_i p q3
          cases h
          have := dataF_code _ _ _ q3
          exact ⟨.inr (.inr this), .inr this⟩
        · split at h
          · rename_i p q4
            cases h
            have := dpF_code _ _ _ _ q4
            exact ⟨.inr (.inr this), .inr this⟩
          · split at h
            · cases h; exact ⟨.inr (.inr rfl), .inr rfl⟩
            · cases h
end Go.Proofs.YtgjgaeloehfhiaaGreatDoor
end
section
/- Compile: a source's words. -/
namespace Go.Proofs.YtgjgaeloehfhiaaGreatDoor
open Go.RowKit

/-- An instruction that may be written, as the generator has it. -/
def Ins.good (i : Ins) : Prop := ∃ op a b : Nat, i.op = op ∧ i.a = a ∧ i.b = b ∧ InsOK op a b i.imm
def Ins.word (i : Ins) : Nat := encW i.op.toNat i.a.toNat i.b.toNat i.imm

theorem info41 : (Tryz.prog.info? 41).map (fun i => (i.zero, i.size, i.bytes)) = some (some (.int .u32 0), 1, 4) := by kernel_rfl

theorem flat_ins : ∀ (l : List Ins) (k j : Nat), k < l.length → j < 4 → (l.flatMap Ins.cells)[k * 4 + j]? = (Ins.cells (l.getD k default))[j]?
  | [], k, j, h, _ => by simp at h
  | d :: ds, 0, j, _, hj => by
    rw [List.flatMap_cons, List.getElem?_append_left (by simp [Ins.cells]; omega)]
    simp
  | d :: ds, k + 1, j, h, hj => by
    rw [List.flatMap_cons, List.getElem?_append_right (by simp [Ins.cells]; omega)]
    have := flat_ins ds k j (by simpa using h) hj
    simp only [Ins.cells, List.length_cons, List.length_nil, List.getD_cons_succ] at this ⊢
    rw [show (k + 1) * 4 + j - (0 + 1 + 1 + 1 + 1) = k * 4 + j by omega]
    exact this

def wordV (n : Nat) : Value := .int .u32 (n : Int)

/-- What compiling leaves. -/
def CompilePost (w : World) : Except (Nat × Nat) UnitF → Ending → World → Prop
  | .error (ln, code), e, w' => e = .returned (.tuple #[.slice none 0 0, .int .i64 ln, .int .i64 code]) ∧ Ext w w'
  | .ok u, e, w' => ∃ v, e = .returned (.tuple #[v, .int .i64 0, .int .i64 0]) ∧ Ext w w' ∧ w'.ownsRow w.heap.size 41 1 v u.code.length (u.code.map fun i => wordV i.word)

set_option maxRecDepth 100000 in
set_option maxHeartbeats 6400000 in
theorem compile_any {N : Nat} (s : ByteArray) (hs : s.size ≤ maxLen) (w : World) (hG : Gl N w) (hC : Cb N w) (hN : N ≤ w.heap.size) (hgood : ∀ u, takenF s = .ok u → (∀ i ∈ u.code, i.good) ∧ u.code.length ≤ 384) : Calls Tryz.prog 5 #[.string s] w (CompilePost w (takenF s)) := by
  have htk := taken_any s hs w hG hC hN
  have hcode := fun ln code (h : takenF s = .error (ln, code)) => (takenF_err h).1
  have HTK := Lib.hid htk
  have HG := Lib.hid hG
  have HGOOD := Lib.hid hgood
  have HCODE := Lib.hid hcode
  clear htk hG hC hgood hcode
  generalize takenF s = R at *
  go_enter Tryz.func5, Tryz.ntmps5
  go_wp2_with fail
  refine HTK.out.mono ?_
  rintro e w1 hp
  cases R with
  | error q =>
    obtain ⟨ln, code⟩ := q
    obtain ⟨rfl, hE⟩ := hp
    have HE := Lib.hid hE
    have hc := HCODE.out _ _ rfl
    have hne : ((code : Int) != 0) = true := by rw [bne_iff_ne]; omega
    clear hE hc
    go_wp2_with fail
    go_ret3
    exact ⟨rfl, HE.out⟩
  | ok u =>
    obtain ⟨ub, rfl, hE, hu⟩ := hp
    obtain ⟨pb, mpb, n, vd, vb, cv, h1, h2, h3, h4, h5, h6, h7, h8⟩ := hu.ex
    obtain ⟨hgood, hlen⟩ := HGOOD.out u rfl
    obtain ⟨ca, cc, rfl⟩ := own_form h6
    have hGl := HG.out.ext hE
    have c2 := cell_of_heap (o := 2) h1
    simp only [List.getElem?_toArray, List.getElem?_cons_zero, List.getElem?_cons_succ] at c2
    have x1 := hE.size
    have HE := Lib.hid hE
    have HROW := Lib.hid h6
    have HGL := Lib.hid hGl
    have HGD := Lib.hid hgood
    clear hE hu h1 h2 h3 h4 h5 h6 h7 h8 hGl hgood HGOOD HTK HCODE
    generalize hcd : u.code = code at *
    have HCD := Lib.hid hcd
    clear hcd
    go_wp2_with fail
    go_loopw [8, 28] (fun v i wr => ∃ k : Nat, k ≤ code.length ∧ i = .int .i64 k ∧ Hid (Ext w1 wr) ∧ Hid (wr.ownsRow w1.heap.size 41 1 v k ((code.take k).map fun i => wordV i.word))) (fun _ i _ => code.length - (intOf i).toNat)
    case atStart => exact ⟨0, by omega, rfl, Lib.hid (Ext.refl w1), Lib.hid (World.ownsRow_nil _ _ _ _)⟩
    case round =>
      obtain ⟨k, hk, rfl, HEX, HRX⟩ := hrel
      by_cases hlt : k < code.length
      · obtain ⟨g, cap, hv⟩ := own_slc HROW.out (by omega)
        have ha : ca = some ⟨g, 0, none⟩ := by injection hv
        subst ha
        clear hv
        have hgd : code.getD k default = code[k] := by simp [List.getD_eq_getElem?_getD, hlt]
        have hi := HGD.out code[k] (List.getElem_mem hlt)
        have hcell := fun j (hj : j < 4) => ((HEX.out.cell g (k * 4 + j) (own_block HROW.out (g := g) rfl).2).trans (World.ownsRow.cellAt HROW.out (k * 4 + j) (by omega))).trans (flat_ins code k j hlt hj)
        rw [hgd] at hcell
        have htake : (code.take (k + 1)).map (fun i => wordV i.word) = (code.take k).map (fun i => wordV i.word) ++ [wordV code[k].word] := by
          rw [List.take_succ_eq_append_getElem hlt, List.map_append]; rfl
        generalize code[k] = x at *
        obtain ⟨op, a, b, e1, e2, e3, hok⟩ := hi
        obtain ⟨xop, xa, xb, imm⟩ := x
        simp only at e1 e2 e3 hok
        subst e1 e2 e3
        have q0 := hcell 0 (by omega)
        have q1 := hcell 1 (by omega)
        have q2 := hcell 2 (by omega)
        have q3 := hcell 3 (by omega)
        simp only [Ins.cells, List.getElem?_cons_zero, List.getElem?_cons_succ, Nat.add_zero] at q0 q1 q2 q3
        have hword : wordV (Ins.word ⟨(op : Int), (a : Int), (b : Int), imm⟩) = .int .u32 (encW op a b imm) := rfl
        rw [hword] at htake
        have henc := encode_ok op a b imm hok (wr.alloc (.cells #[.int .i64 op, .int .i64 a, .int .i64 b, .int .i64 imm] 53)) ((HGL.out.ext HEX.out).isa.keep ((Ext.refl wr).alloc _))
        have HENC := Lib.hid henc
        have HTAKE := Lib.hid htake
        obtain ⟨oa, oc, rfl⟩ := own_form HRX.out
        clear hcell hword htake henc hok hgd
        go_wp2_with fail
        refine HENC.out.mono ?_
        rintro e w2 ⟨rfl, hE2⟩
        have HE2 := Lib.hid (((Ext.refl wr).alloc (.cells #[.int .i64 op, .int .i64 a, .int .i64 b, .int .i64 imm] 53)).trans hE2)
        have x2 := HE2.out.size
        have xr := HEX.out.size
        clear hE2
        generalize encW op a b imm = wd at *
        obtain ⟨i0, hi0, hz0, hz1, hz2⟩ := info_parts info41
        have CONT : ∀ {o : Oper} {rest : List Oper} {ops : Array Oper} {A : Act} {Q : Exit → Act → World → Prop}, o.guard = none → o.op = .call { callee := .builtin .append, args := #[.tmp 37, .tmp 39], argTypes := #[23, 23] } → A.eval (.tmp 37) = .slice oa k oc → A.eval (.tmp 39) = .slice (some ⟨w2.heap.size, 0, none⟩) 1 1 →
            (∀ v' w3, Hid (Ext w1 w3) → Hid (w3.ownsRow w1.heap.size 41 1 v' (k + 1) ((code.take (k + 1)).map fun i => wordV i.word)) → wpList Tryz.prog ops Q rest (A.put o.dst v') w3) →
            wpList Tryz.prog ops Q (o :: rest) A (w2.alloc (.cells #[.int .u32 wd] 41)) := by
          intro o rest ops A Q hgd ho e1 e2 kk
          have hE3 := HE2.out.trans ((Ext.refl w2).alloc (.cells #[.int .u32 wd] 41))
          refine wpList_own_append hgd (.tmp 37) (.tmp 39) 23 ho w1.heap.size 41 i0 _ 1 4 Tryz.underlying23 hi0 hz0 hz1 hz2 rfl (by decide) (.slice oa k oc) k ((code.take k).map fun i => wordV i.word) e1 (own_keep HRX.out (fun q hq => hE3.block q (own_block HRX.out hq).2) (Nat.le_refl _))
            ⟨w2.heap.size, 0, none⟩ 1 1 [.int .u32 wd] e2 rfl ?_ ?_ (by simp only [maxLen]; omega) (by omega) (by rw [szA]; omega) ?_
          · intro j u hu
            rcases j with _ | j
            · simp only [List.getElem?_cons_zero, Option.some.injEq] at hu
              subst hu
              rw [add0, cell_of_heap (c := #[.int .u32 wd]) (T := 41) (f := (0, 0)) (by rw [heapA, if_pos rfl])]
              rfl
            · simp at hu
          · intro u hu
            simp only [List.mem_singleton] at hu
            subst hu
            rfl
          intro v' w3 hrow3 hg3 hb3
          have hEE := HEX.out.trans hE3
          refine kk v' w3 (Lib.hid ⟨hg3.os.trans hEE.os, hg3.tape.trans hEE.tape, hg3.output.trans hEE.output, Nat.le_trans hEE.size hg3.size, fun q hq => ?_⟩) (Lib.hid (by rw [HTAKE.out]; exact hrow3))
          rw [hg3.block q (Nat.lt_of_lt_of_le hq hEE.size) (fun e => by have := (own_block HRX.out e.symm).1; omega)]
          exact hEE.block q hq
        go_wp2_with (refine CONT rfl rfl rfl rfl ?_; intro v' w3 HE3 HR3)
        all_goals exact ⟨⟨k + 1, by omega, by go_num, HE3, HR3⟩, by simp [intOf]; omega⟩
      · have hkk : k = code.length := by omega
        subst hkk
        have hR := HRX.out
        rw [List.take_length] at hR
        obtain ⟨oa, oc, rfl⟩ := own_form hR
        have HR2 := Lib.hid hR
        clear hR HRX
        go_wp2_with fail
        go_ret3
        refine ⟨.slice oa code.length oc, rfl, HE.out.trans HEX.out, ?_⟩
        rw [HCD.out]
        exact own_keep HR2.out (fun _ _ => rfl) (by omega)
end Go.Proofs.YtgjgaeloehfhiaaGreatDoor
end
