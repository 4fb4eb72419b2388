/- ShX: a part of its proof (contracts of the functions that it reaches, and the plain mathematics behind them). -/
import Derived.Test.YtepgkimlmoikmaaRows
import Derived.WalkKit
import Derived.ProofKit
set_option linter.unusedVariables false
set_option linter.unusedSimpArgs false
namespace Go.Proofs.Ytepgkimlmoikmaa.Jf
theorem band {a b : Bool} (h : a = true) (k : b = true) : (a && b) = true := by rw [h, k]; rfl
theorem g2 : (laidOutB Try.prog) = true := by kernel_rfl
theorem g3 : (mapsRowed Try.prog) = true := by kernel_rfl
theorem g7 : ((Try.prog.stops == [])) = true := by kernel_rfl
theorem g9 : ((Try.prog.stopKnobs == [])) = true := by kernel_rfl
theorem g23 : ((true == Try.prog.plainKeys)) = true := by kernel_rfl
theorem g25 : (Try.prog.stopsHeard) = true := by kernel_rfl
theorem g26 : (Try.prog.mayEnter) = true := by kernel_rfl
theorem g27 : ((false == Try.prog.liftsFinal)) = true := by kernel_rfl
theorem g28 : ((Try.prog.make == some Rows.blockRightRow.make)) = true := by kernel_rfl
end Go.Proofs.Ytepgkimlmoikmaa.Jf
