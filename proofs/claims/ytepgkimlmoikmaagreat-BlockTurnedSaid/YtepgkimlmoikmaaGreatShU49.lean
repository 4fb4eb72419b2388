/- ShU: a part of its proof (contracts of the functions that it reaches, and the plain mathematics behind them). -/
import Derived.Test.YtepgkimlmoikmaaGreatShU48
import Derived.Test.YtepgkimlmoikmaaGreatShU38
set_option linter.unusedVariables false
set_option linter.unusedSimpArgs false
set_option maxHeartbeats 2000000
set_option maxRecDepth 100000
set_option linter.unusedVariables false
set_option linter.unusedSimpArgs false
namespace Go.Proofs.YtepgkimlmoikmaaGreat
open Go.RowKit Go.Proofs.YtepgkimlmoikmaaGreat.Spec Go.Proofs.YtepgkimlmoikmaaGreatW.PrintWords Go.Proofs.YtepgkimlmoikmaaGreatW.PrintLast
open Go.Proofs.YtepgkimlmoikmaaGreatW.PrintMore
attribute [local go_sem ↓] Go.wp_at_zero Go.wp_at_succ
attribute [local go_sem] max2_int min2_int max_two min_two
namespace Spec
end Spec
end Go.Proofs.YtepgkimlmoikmaaGreat
set_option linter.unusedVariables false
set_option linter.unusedSimpArgs false
namespace Go.Proofs.YtepgkimlmoikmaaGreat
open Go.RowKit Go.Proofs.YtepgkimlmoikmaaGreat.Spec Go.Proofs.YtepgkimlmoikmaaGreatW.PrintWords Go.Proofs.YtepgkimlmoikmaaGreatW.PrintLast
open Go.Proofs.YtepgkimlmoikmaaGreatW.PrintMore
attribute [local go_sem ↓] Go.wp_at_zero Go.wp_at_succ
attribute [local go_sem] max2_int min2_int max_two min_two
namespace Spec
def chunk (k : Nat) : Nat → ByteArray → List ByteArray × ByteArray
 | 0, h => ([], h)
 | f + 1, h => if k ≤ h.size then (h.extract 0 k :: (chunk k f (h.extract k h.size)).1, (chunk k f (h.extract k h.size)).2) else ([], h)
abbrev chk (k : Nat) (h : ByteArray) : List ByteArray × ByteArray := chunk k h.size h
def lastB (h : ByteArray) : List ByteArray := if h.size = 0 then [] else [h]
end Spec
namespace Spec
section
variable (k : Nat) (os : List (Int × ByteArray))
def opA (j : Nat) : Int × ByteArray := os.getD j (0, ⟨#[]⟩)
def hA : Nat → ByteArray
 | 0 => ⟨#[]⟩
 | j + 1 => if (opA os j).1 = 1 then (chk k (hA j ++ (opA os j).2)).2 else if (opA os j).1 = 2 then ⟨#[]⟩ else hA j
def wA (j : Nat) : List ByteArray := if (opA os j).1 = 1 then (chk k (hA k os j ++ (opA os j).2)).1 else if (opA os j).1 = 2 then lastB (hA k os j) else []
end
end Spec
end Go.Proofs.YtepgkimlmoikmaaGreat
