/- FaultTells, the tied card. -/
import Derived.Test.YtbnoeoghhbhhcaaDoorRowFaultTells
import Derived.Test.YtbnoeoghhbhhcaaDoorTie
import Derived.Test.YtbnoeoghhbhhcaaDoorCards
import Derived.SevenTiedAt
namespace Go.Proofs.YtbnoeoghhbhhcaaDoor
open Go
theorem faultTells_holds : Rows.FaultTellsCardSaid :=
  Claim7.holds_tied_plain_at .later [] [.data, .data, .data] true (true, "0385539d5ef30848e3ad4e45a10a2cddb2165da33202905a343323692d0c6e58") true
    faultTells.proved (fun _ h => by cases h) (by kernel_rfl) (fun _ h => by cases h) faultTells_row_tie rfl ⟨rfl, rfl⟩ (by kernel_rfl) rfl
    (fun f fn hf hfn => by
      obtain rfl : f = 3 := Option.some.inj ((show Tryd.prog.funcNamed "lexiphane/lexiphanelaw1.FaultTells" = some 3 by kernel_rfl).symm.trans hf) |>.symm
      obtain rfl : fn = Tryd.f3 := (Option.some.inj (Tryd.func3.symm.trans hfn)).symm
      exact ⟨by kernel_rfl, fun j t ht => by
        rw [Tryd.params3] at ht
        have h3 : t = 22 ∨ t = 3 := by
          rcases j with _ | _ | j
          · left; simpa using ht.symm
          · right; simpa using ht.symm
          · simp at ht
        rcases h3 with rfl | rfl
        · exact (show Tryd.prog.wantsStandIn 22 = false by kernel_rfl)
        · exact (show Tryd.prog.wantsStandIn 3 = false by kernel_rfl)⟩)
    (by kernel_rfl)
#print axioms faultTells_holds
end Go.Proofs.YtbnoeoghhbhhcaaDoor
