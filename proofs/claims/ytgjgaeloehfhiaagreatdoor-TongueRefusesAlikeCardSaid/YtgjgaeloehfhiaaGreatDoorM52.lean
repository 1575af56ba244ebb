/- For every source text and every fuel, amberlaw23.TongueRefusesAlike returns true, and both arguments read afterwards as they read before.
   Conditions, all of them the given row's and card's own cells and none of ours: the fourteen listed package-level variables hold, when the call begins, what the row says (the card ties that to the text of the pruned copy of the project); of the variables that the row names and does not list, it speaks for every value. -/
import Derived.Test.YtgjgaeloehfhiaaGreatDoorM51
import Derived.Test.YtgjgaeloehfhiaaGreatDoorTie
import Derived.Test.YtgjgaeloehfhiaaGreatDoorCards
import Derived.SevenTiedAt
namespace Go.Proofs.YtgjgaeloehfhiaaGreatDoor
open Go
theorem tongueRefusesAlike_card : Rows.TongueRefusesAlikeCardSaid :=
  Claim7.holds_tied_plain_at .later [] [.data, .data, .data, .data, .sentinel, .sentinel, .data, .mapped, .data, .data, .data, .data, .pinned, .pinned] true (true, "58366c1a671e48e093cd139bc8a918d135524fc21aa543a1d5579afe39a44dca") true
    tongueRefusesAlike_holds (fun _ h => by cases h) (by kernel_rfl) (fun _ h => by cases h) tongueRefusesAlike_row_tie rfl ⟨rfl, rfl⟩ (by kernel_rfl) rfl
    (fun f fn hf hfn => by
      obtain rfl : f = 3 := Option.some.inj ((show Tryz.prog.funcNamed "amber/amberlaw23.TongueRefusesAlike" = some 3 by kernel_rfl).symm.trans hf) |>.symm
      obtain rfl : fn = Tryz.f3 := (Option.some.inj (Tryz.func3.symm.trans hfn)).symm
      exact ⟨by kernel_rfl, fun j t ht => by
        rw [Tryz.params3] at ht
        have hm : t ∈ [9, 3] := by simpa using Array.mem_of_getElem? ht
        have hall : ([9, 3].all fun u => !Tryz.prog.wantsStandIn u) = true := by kernel_rfl
        exact (show Tryz.prog.wantsStandIn t = false by simpa using List.all_eq_true.1 hall t hm)⟩)
    (by kernel_rfl)
#print axioms tongueRefusesAlike_card
end Go.Proofs.YtgjgaeloehfhiaaGreatDoor
