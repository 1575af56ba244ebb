/- All parts of the grammar are read as the plain function says. -/
import Derived.Test.YtgjgaeloehfhiaaGreatDoorM18
namespace Go.Proofs.YtgjgaeloehfhiaaGreatDoor
open Go.RowKit

/-- An assignment is read where a name stands. -/
def ReadsA (toks : List Tok) (f : Nat) : Prop := ∀ (w : World) (rb lb cap at_ N : Nat), RdAt w rb lb cap toks at_ → Gl N w → N ≤ rb → need toks.length at_ .assign ≤ f → (toks.getD at_ default).kind = 2 →
  Calls Tryz.prog 97 #[.pointer (some ⟨rb, 0, none⟩)] w (PPost w rb lb cap toks (pr toks f .assign at_))

structure AllReads (toks : List Tok) (f : Nat) : Prop where
  operand : Reads toks f .operand
  expr : ∀ t, 1 ≤ t → Reads toks f (.expr t)
  choice : Reads toks f .choice
  block : Reads toks f .block
  stmt : Reads toks f .stmt
  assign : ReadsA toks f

theorem need_pos (n a : Nat) (wh : What) : 1 ≤ need n a wh := by cases wh <;> simp only [need] <;> omega

theorem all_reads (toks : List Tok) (f : Nat) : AllReads toks f := by
  induction f using Nat.strongRecOn with
  | _ f ih =>
    cases f with
    | zero =>
      have no : ∀ wh, Reads toks 0 wh := fun wh w rb lb cap at_ N _ _ _ h => absurd h (by have := need_pos toks.length at_ wh; omega)
      exact ⟨no _, fun _ _ => no _, no _, no _, no _, fun w rb lb cap at_ N _ _ _ h => absurd h (by have := need_pos toks.length at_ .assign; omega)⟩
    | succ f =>
      have i0 := ih f (Nat.lt_succ_self f)
      have e1 := i0.expr 1 (Nat.le_refl 1)
      refine ⟨operand_reads e1 i0.operand, fun t ht => expr_reads t ht (fun g hg u hu => (ih g (by omega)).expr u hu) i0.operand, ?_, ?_, ?_, ?_⟩
      · exact fun w rb lb cap at_ N h hG hN hf => choice_reads e1 i0.block i0.choice w rb lb cap at_ N h hG hN hf
      · exact fun w rb lb cap at_ N h hG hN hf => block_reads (fun g hg => (ih g (by omega)).stmt) w rb lb cap at_ N h hG hN hf
      · exact fun w rb lb cap at_ N h hG hN hf => stmt_reads e1 i0.block i0.choice i0.assign w rb lb cap at_ N h hG hN hf
      · exact fun w rb lb cap at_ N h hG hN hf hk => assign_reads e1 w rb lb cap at_ N h hG hN hf hk

end Go.Proofs.YtgjgaeloehfhiaaGreatDoor
