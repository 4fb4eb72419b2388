/- ShU: a part of its proof (contracts of the functions that it reaches, and the plain mathematics behind them). -/
import Derived.Test.YtepgkimlmoikmaaGreatRows
import Derived.WalkKit
import Derived.ProofKit
set_option linter.unusedVariables false
set_option linter.unusedSimpArgs false
set_option maxHeartbeats 2000000
set_option maxRecDepth 100000
namespace Go.Proofs.YtepgkimlmoikmaaGreat.Jf
theorem band {a b : Bool} (h : a = true) (k : b = true) : (a && b) = true := by rw [h, k]; rfl
theorem g2 : (laidOutB Tryz.prog) = true := by kernel_rfl
theorem g3 : (mapsRowed Tryz.prog) = true := by kernel_rfl
theorem g7 : ((Tryz.prog.stops == [])) = true := by kernel_rfl
theorem g9 : ((Tryz.prog.stopKnobs == [])) = true := by kernel_rfl
theorem g23 : ((true == Tryz.prog.plainKeys)) = true := by kernel_rfl
theorem g25 : (Tryz.prog.stopsHeard) = true := by kernel_rfl
theorem g26 : (Tryz.prog.mayEnter) = true := by kernel_rfl
theorem g27 : ((false == Tryz.prog.liftsFinal)) = true := by kernel_rfl
theorem g28 : ((Tryz.prog.make == some Rows.blockTellsRow.make)) = true := by kernel_rfl
end Go.Proofs.YtepgkimlmoikmaaGreat.Jf
