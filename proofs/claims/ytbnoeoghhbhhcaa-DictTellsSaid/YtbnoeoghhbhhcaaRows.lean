/-
  No cell of these rows narrows 'for every input' (looked for: loops, veiled, ifaces, maps, wideKeys, modest, calm, conditions, laid).
  DERIVED. THE GIVEN ROWS OF THIS SEAT. 10 by the template 'for every input the law returns true; each argument reads behind the call as it read before'; 0 by the template 'total and deterministic' (their statements: YtbnoeoghhbhhcaaTotals.lean).
  GIVEN WITH THE SEED: the statements are not yours to turn. If you find one false, say at which input.
  Laid BY PROGRAM, IN A SANDBOX (cutbox-rows.mjs): the forced cells as the released guide's own fill.sh prints them over the translation e71960d031cca24a… (all of the seat's roots in one cut). By AI agents, Wed Nov 11 2026. No macro, syntax, notation, axiom, sorry.
-/
import Derived.Test.YtbnoeoghhbhhcaaChecked
import GoSem.Claim
import GoSem.ClaimJoined
import GoSem.ClaimMapViews
import Derived.JoinedTies
import Derived.KernelRfl
namespace Go.Proofs.Ytbnoeoghhbhhcaa
/- THE CELL 'sum', in the pinned program and in every row, IS THE sha256 OF THE DUMP (.gsa) THAT YtbnoeoghhbhhcaaProg.lean LOADS. Nothing in Lean hashes anything: it is a label: what it is worth is what the hold of that sum in a sandbox is worth. -/
noncomputable def Try.pinned : Pinned := { name := "ytbnoeoghhbhhcaa", sum := "e71960d031cca24a9828d82367b892e56b03f0e4a439dafc54d640f5674f3237", checked := Try.checked }
namespace Rows
def none {H : Type} : Left H := { results := [], args := [] }

/-- 'lexiphanelaw6.DictBounds': WHATEVER THE INPUT: true; the input reads as it did. -/
def dictBoundsSpec : ChangeSpec := { name := "dictBounds", fn := fun _ => fun
  | [d1, d2, d3] => { results := [.lit (.bool true)], args := [d1, d2, d3] }
  | _ => none }
def dictBoundsRow : OpenClaim := { program := "ytbnoeoghhbhhcaa", sum := "e71960d031cca24a9828d82367b892e56b03f0e4a439dafc54d640f5674f3237", func := "lexiphane/lexiphanelaw6.DictBounds", spec := "dictBounds", apart := false }
def DictBoundsSaid : Prop := dictBoundsRow.holds Try.pinned (OpenSpec.ofChange dictBoundsSpec)

/-- ITS FALSE NEIGHBOUR: 'it returns false'. Refute it at one input. -/
def dictBoundsWrong : ChangeSpec := { name := "dictBounds", fn := fun _ => fun
  | [d1, d2, d3] => { results := [.lit (.bool false)], args := [d1, d2, d3] }
  | _ => none }
def DictBoundsWrongFalsely : Prop := dictBoundsRow.holds Try.pinned (OpenSpec.ofChange dictBoundsWrong)

/-- 'lexiphanelaw6.DictOrder': WHATEVER THE INPUT: true; the input reads as it did. -/
def dictOrderSpec : ChangeSpec := { name := "dictOrder", fn := fun _ => fun
  | [d1, d2, d3] => { results := [.lit (.bool true)], args := [d1, d2, d3] }
  | _ => none }
def dictOrderRow : OpenClaim := { program := "ytbnoeoghhbhhcaa", sum := "e71960d031cca24a9828d82367b892e56b03f0e4a439dafc54d640f5674f3237", func := "lexiphane/lexiphanelaw6.DictOrder", spec := "dictOrder", apart := false }
def DictOrderSaid : Prop := dictOrderRow.holds Try.pinned (OpenSpec.ofChange dictOrderSpec)

/-- ITS FALSE NEIGHBOUR: 'it returns false'. Refute it at one input. -/
def dictOrderWrong : ChangeSpec := { name := "dictOrder", fn := fun _ => fun
  | [d1, d2, d3] => { results := [.lit (.bool false)], args := [d1, d2, d3] }
  | _ => none }
def DictOrderWrongFalsely : Prop := dictOrderRow.holds Try.pinned (OpenSpec.ofChange dictOrderWrong)

/-- 'lexiphanelaw6.DictFinds': WHATEVER THE INPUT: true; the input reads as it did. -/
def dictFindsSpec : ChangeSpec := { name := "dictFinds", fn := fun _ => fun
  | [d1, d2] => { results := [.lit (.bool true)], args := [d1, d2] }
  | _ => none }
def dictFindsRow : OpenClaim := { program := "ytbnoeoghhbhhcaa", sum := "e71960d031cca24a9828d82367b892e56b03f0e4a439dafc54d640f5674f3237", func := "lexiphane/lexiphanelaw6.DictFinds", spec := "dictFinds", apart := false }
def DictFindsSaid : Prop := dictFindsRow.holds Try.pinned (OpenSpec.ofChange dictFindsSpec)

/-- ITS FALSE NEIGHBOUR: 'it returns false'. Refute it at one input. -/
def dictFindsWrong : ChangeSpec := { name := "dictFinds", fn := fun _ => fun
  | [d1, d2] => { results := [.lit (.bool false)], args := [d1, d2] }
  | _ => none }
def DictFindsWrongFalsely : Prop := dictFindsRow.holds Try.pinned (OpenSpec.ofChange dictFindsWrong)

/-- 'lexiphanelaw6.DictNames': WHATEVER THE INPUT: true; the input reads as it did. -/
def dictNamesSpec : ChangeSpec := { name := "dictNames", fn := fun _ => fun
  | [d1, d2] => { results := [.lit (.bool true)], args := [d1, d2] }
  | _ => none }
def dictNamesRow : OpenClaim := { program := "ytbnoeoghhbhhcaa", sum := "e71960d031cca24a9828d82367b892e56b03f0e4a439dafc54d640f5674f3237", func := "lexiphane/lexiphanelaw6.DictNames", spec := "dictNames", apart := false }
def DictNamesSaid : Prop := dictNamesRow.holds Try.pinned (OpenSpec.ofChange dictNamesSpec)

/-- ITS FALSE NEIGHBOUR: 'it returns false'. Refute it at one input. -/
def dictNamesWrong : ChangeSpec := { name := "dictNames", fn := fun _ => fun
  | [d1, d2] => { results := [.lit (.bool false)], args := [d1, d2] }
  | _ => none }
def DictNamesWrongFalsely : Prop := dictNamesRow.holds Try.pinned (OpenSpec.ofChange dictNamesWrong)

/-- 'lexiphanelaw6.DictLoads': WHATEVER THE INPUT: true; the input reads as it did. -/
def dictLoadsSpec : ChangeSpec := { name := "dictLoads", fn := fun _ => fun
  | [d] => { results := [.lit (.bool true)], args := [d] }
  | _ => none }
def dictLoadsRow : OpenClaim := { program := "ytbnoeoghhbhhcaa", sum := "e71960d031cca24a9828d82367b892e56b03f0e4a439dafc54d640f5674f3237", func := "lexiphane/lexiphanelaw6.DictLoads", spec := "dictLoads", apart := false }
def DictLoadsSaid : Prop := dictLoadsRow.holds Try.pinned (OpenSpec.ofChange dictLoadsSpec)

/-- ITS FALSE NEIGHBOUR: 'it returns false'. Refute it at one input. -/
def dictLoadsWrong : ChangeSpec := { name := "dictLoads", fn := fun _ => fun
  | [d] => { results := [.lit (.bool false)], args := [d] }
  | _ => none }
def DictLoadsWrongFalsely : Prop := dictLoadsRow.holds Try.pinned (OpenSpec.ofChange dictLoadsWrong)

/-- 'lexiphanelaw6.DictCuts': WHATEVER THE INPUT: true; the input reads as it did. -/
def dictCutsSpec : ChangeSpec := { name := "dictCuts", fn := fun _ => fun
  | [d1, d2, d3] => { results := [.lit (.bool true)], args := [d1, d2, d3] }
  | _ => none }
def dictCutsRow : OpenClaim := { program := "ytbnoeoghhbhhcaa", sum := "e71960d031cca24a9828d82367b892e56b03f0e4a439dafc54d640f5674f3237", func := "lexiphane/lexiphanelaw6.DictCuts", spec := "dictCuts", apart := false }
def DictCutsSaid : Prop := dictCutsRow.holds Try.pinned (OpenSpec.ofChange dictCutsSpec)

/-- ITS FALSE NEIGHBOUR: 'it returns false'. Refute it at one input. -/
def dictCutsWrong : ChangeSpec := { name := "dictCuts", fn := fun _ => fun
  | [d1, d2, d3] => { results := [.lit (.bool false)], args := [d1, d2, d3] }
  | _ => none }
def DictCutsWrongFalsely : Prop := dictCutsRow.holds Try.pinned (OpenSpec.ofChange dictCutsWrong)

/-- 'lexiphanelaw6.DictTells': WHATEVER THE INPUT: true; the input reads as it did. -/
def dictTellsSpec : ChangeSpec := { name := "dictTells", fn := fun _ => fun
  | [d1, d2, d3] => { results := [.lit (.bool true)], args := [d1, d2, d3] }
  | _ => none }
def dictTellsRow : OpenClaim := { program := "ytbnoeoghhbhhcaa", sum := "e71960d031cca24a9828d82367b892e56b03f0e4a439dafc54d640f5674f3237", func := "lexiphane/lexiphanelaw6.DictTells", spec := "dictTells", apart := false }
def DictTellsSaid : Prop := dictTellsRow.holds Try.pinned (OpenSpec.ofChange dictTellsSpec)

/-- ITS FALSE NEIGHBOUR: 'it returns false'. Refute it at one input. -/
def dictTellsWrong : ChangeSpec := { name := "dictTells", fn := fun _ => fun
  | [d1, d2, d3] => { results := [.lit (.bool false)], args := [d1, d2, d3] }
  | _ => none }
def DictTellsWrongFalsely : Prop := dictTellsRow.holds Try.pinned (OpenSpec.ofChange dictTellsWrong)

/-- 'lexiphanelaw1.FaultNames': WHATEVER THE INPUT: true; the input reads as it did. -/
def faultNamesSpec : ChangeSpec := { name := "faultNames", fn := fun _ => fun
  | [d1, d2] => { results := [.lit (.bool true)], args := [d1, d2] }
  | _ => none }
def faultNamesRow : OpenClaim := { program := "ytbnoeoghhbhhcaa", sum := "e71960d031cca24a9828d82367b892e56b03f0e4a439dafc54d640f5674f3237", func := "lexiphane/lexiphanelaw1.FaultNames", spec := "faultNames", unfollowed := true, recurses := true, apart := false }
def FaultNamesSaid : Prop := faultNamesRow.holds Try.pinned (OpenSpec.ofChange faultNamesSpec)

/-- ITS FALSE NEIGHBOUR: 'it returns false'. Refute it at one input. -/
def faultNamesWrong : ChangeSpec := { name := "faultNames", fn := fun _ => fun
  | [d1, d2] => { results := [.lit (.bool false)], args := [d1, d2] }
  | _ => none }
def FaultNamesWrongFalsely : Prop := faultNamesRow.holds Try.pinned (OpenSpec.ofChange faultNamesWrong)

/-- 'lexiphanelaw1.FaultSame': WHATEVER THE INPUT: true; the input reads as it did. -/
def faultSameSpec : ChangeSpec := { name := "faultSame", fn := fun _ => fun
  | [d1, d2, d3, d4] => { results := [.lit (.bool true)], args := [d1, d2, d3, d4] }
  | _ => none }
def faultSameRow : OpenClaim := { program := "ytbnoeoghhbhhcaa", sum := "e71960d031cca24a9828d82367b892e56b03f0e4a439dafc54d640f5674f3237", func := "lexiphane/lexiphanelaw1.FaultSame", spec := "faultSame", unfollowed := true, recurses := true, apart := false }
def FaultSameSaid : Prop := faultSameRow.holds Try.pinned (OpenSpec.ofChange faultSameSpec)

/-- ITS FALSE NEIGHBOUR: 'it returns false'. Refute it at one input. -/
def faultSameWrong : ChangeSpec := { name := "faultSame", fn := fun _ => fun
  | [d1, d2, d3, d4] => { results := [.lit (.bool false)], args := [d1, d2, d3, d4] }
  | _ => none }
def FaultSameWrongFalsely : Prop := faultSameRow.holds Try.pinned (OpenSpec.ofChange faultSameWrong)

/-- 'lexiphanelaw6.DictFirst': WHATEVER THE INPUT: true; the input reads as it did. -/
def dictFirstSpec : ChangeSpec := { name := "dictFirst", fn := fun _ => fun
  | [d] => { results := [.lit (.bool true)], args := [d] }
  | _ => none }
def dictFirstRow : OpenClaim := { program := "ytbnoeoghhbhhcaa", sum := "e71960d031cca24a9828d82367b892e56b03f0e4a439dafc54d640f5674f3237", func := "lexiphane/lexiphanelaw6.DictFirst", spec := "dictFirst", unfollowed := true, recurses := true, apart := false }
def DictFirstSaid : Prop := dictFirstRow.holds Try.pinned (OpenSpec.ofChange dictFirstSpec)

/-- ITS FALSE NEIGHBOUR: 'it returns false'. Refute it at one input. -/
def dictFirstWrong : ChangeSpec := { name := "dictFirst", fn := fun _ => fun
  | [d] => { results := [.lit (.bool false)], args := [d] }
  | _ => none }
def DictFirstWrongFalsely : Prop := dictFirstRow.holds Try.pinned (OpenSpec.ofChange dictFirstWrong)

/- THE SECOND FORM. 'bulk': how many values and letters a reading holds, each counted each time it is reached (what is shared counts as often as it is met; a slice's spare places count too). A statement '..UptoSaid' is the law's where the arguments, and the package variables that the reading takes, are together of bulk at most 1048576: NARROWER than '..Said'. Prove '..Said' where nothing that the law and all that it calls make is longer than what came in: it says more and counts as full. Else prove '..UptoSaid'. A law counts once. -/
mutual
def uptoBulk {H : Type} : DataW H → Nat
  | .lit (.string bytes) => bytes.length + 1
  | .lit _ => 1
  | .nil => 1
  | .ptr d => uptoBulk d + 1
  | .slice elems spare => uptoBulkAll elems + uptoBulkAll spare + 1
  | .agg parts => uptoBulkAll parts + 1
  | .iface _ d => uptoBulk d + 1
  | .map entries => uptoBulkEntries entries + 1
  | .held _ => 1
def uptoBulkAll {H : Type} : List (DataW H) → Nat
  | [] => 0
  | d :: r => uptoBulk d + uptoBulkAll r
def uptoBulkEntries {H : Type} : List (Lit × DataW H) → Nat
  | [] => 0
  | x :: r => uptoBulkEntry x + uptoBulkEntries r
def uptoBulkEntry {H : Type} : Lit × DataW H → Nat
  | (.string bytes, d) => bytes.length + uptoBulk d + 1
  | (_, d) => uptoBulk d + 1
 end
def uptoSmall : (H : Type) → List (DataW H) → Bool := fun _ ds => decide (uptoBulkAll ds ≤ 1048576)
def OpenSpec.upto (s : _root_.Go.ChangeSpec) : _root_.Go.OpenSpec := { _root_.Go.OpenSpec.ofChange s with cond := some uptoSmall }

/-- 'lexiphanelaw6.DictBounds', WHERE WHAT IT READS IS OF BULK AT MOST 1048576: true; the input reads as it did. -/
def dictBoundsUptoRow : OpenClaim := { program := "ytbnoeoghhbhhcaa", sum := "e71960d031cca24a9828d82367b892e56b03f0e4a439dafc54d640f5674f3237", func := "lexiphane/lexiphanelaw6.DictBounds", spec := "dictBounds", apart := false, narrowed := true }
def DictBoundsUptoSaid : Prop := dictBoundsUptoRow.holds Try.pinned (OpenSpec.upto dictBoundsSpec)

/-- 'lexiphanelaw6.DictOrder', WHERE WHAT IT READS IS OF BULK AT MOST 1048576: true; the input reads as it did. -/
def dictOrderUptoRow : OpenClaim := { program := "ytbnoeoghhbhhcaa", sum := "e71960d031cca24a9828d82367b892e56b03f0e4a439dafc54d640f5674f3237", func := "lexiphane/lexiphanelaw6.DictOrder", spec := "dictOrder", apart := false, narrowed := true }
def DictOrderUptoSaid : Prop := dictOrderUptoRow.holds Try.pinned (OpenSpec.upto dictOrderSpec)

/-- 'lexiphanelaw6.DictFinds', WHERE WHAT IT READS IS OF BULK AT MOST 1048576: true; the input reads as it did. -/
def dictFindsUptoRow : OpenClaim := { program := "ytbnoeoghhbhhcaa", sum := "e71960d031cca24a9828d82367b892e56b03f0e4a439dafc54d640f5674f3237", func := "lexiphane/lexiphanelaw6.DictFinds", spec := "dictFinds", apart := false, narrowed := true }
def DictFindsUptoSaid : Prop := dictFindsUptoRow.holds Try.pinned (OpenSpec.upto dictFindsSpec)

/-- 'lexiphanelaw6.DictNames', WHERE WHAT IT READS IS OF BULK AT MOST 1048576: true; the input reads as it did. -/
def dictNamesUptoRow : OpenClaim := { program := "ytbnoeoghhbhhcaa", sum := "e71960d031cca24a9828d82367b892e56b03f0e4a439dafc54d640f5674f3237", func := "lexiphane/lexiphanelaw6.DictNames", spec := "dictNames", apart := false, narrowed := true }
def DictNamesUptoSaid : Prop := dictNamesUptoRow.holds Try.pinned (OpenSpec.upto dictNamesSpec)

/-- 'lexiphanelaw6.DictLoads', WHERE WHAT IT READS IS OF BULK AT MOST 1048576: true; the input reads as it did. -/
def dictLoadsUptoRow : OpenClaim := { program := "ytbnoeoghhbhhcaa", sum := "e71960d031cca24a9828d82367b892e56b03f0e4a439dafc54d640f5674f3237", func := "lexiphane/lexiphanelaw6.DictLoads", spec := "dictLoads", apart := false, narrowed := true }
def DictLoadsUptoSaid : Prop := dictLoadsUptoRow.holds Try.pinned (OpenSpec.upto dictLoadsSpec)

/-- 'lexiphanelaw6.DictCuts', WHERE WHAT IT READS IS OF BULK AT MOST 1048576: true; the input reads as it did. -/
def dictCutsUptoRow : OpenClaim := { program := "ytbnoeoghhbhhcaa", sum := "e71960d031cca24a9828d82367b892e56b03f0e4a439dafc54d640f5674f3237", func := "lexiphane/lexiphanelaw6.DictCuts", spec := "dictCuts", apart := false, narrowed := true }
def DictCutsUptoSaid : Prop := dictCutsUptoRow.holds Try.pinned (OpenSpec.upto dictCutsSpec)

/-- 'lexiphanelaw6.DictTells', WHERE WHAT IT READS IS OF BULK AT MOST 1048576: true; the input reads as it did. -/
def dictTellsUptoRow : OpenClaim := { program := "ytbnoeoghhbhhcaa", sum := "e71960d031cca24a9828d82367b892e56b03f0e4a439dafc54d640f5674f3237", func := "lexiphane/lexiphanelaw6.DictTells", spec := "dictTells", apart := false, narrowed := true }
def DictTellsUptoSaid : Prop := dictTellsUptoRow.holds Try.pinned (OpenSpec.upto dictTellsSpec)

/-- 'lexiphanelaw1.FaultNames', WHERE WHAT IT READS IS OF BULK AT MOST 1048576: true; the input reads as it did. -/
def faultNamesUptoRow : OpenClaim := { program := "ytbnoeoghhbhhcaa", sum := "e71960d031cca24a9828d82367b892e56b03f0e4a439dafc54d640f5674f3237", func := "lexiphane/lexiphanelaw1.FaultNames", spec := "faultNames", unfollowed := true, recurses := true, apart := false, narrowed := true }
def FaultNamesUptoSaid : Prop := faultNamesUptoRow.holds Try.pinned (OpenSpec.upto faultNamesSpec)

/-- 'lexiphanelaw1.FaultSame', WHERE WHAT IT READS IS OF BULK AT MOST 1048576: true; the input reads as it did. -/
def faultSameUptoRow : OpenClaim := { program := "ytbnoeoghhbhhcaa", sum := "e71960d031cca24a9828d82367b892e56b03f0e4a439dafc54d640f5674f3237", func := "lexiphane/lexiphanelaw1.FaultSame", spec := "faultSame", unfollowed := true, recurses := true, apart := false, narrowed := true }
def FaultSameUptoSaid : Prop := faultSameUptoRow.holds Try.pinned (OpenSpec.upto faultSameSpec)

/-- 'lexiphanelaw6.DictFirst', WHERE WHAT IT READS IS OF BULK AT MOST 1048576: true; the input reads as it did. -/
def dictFirstUptoRow : OpenClaim := { program := "ytbnoeoghhbhhcaa", sum := "e71960d031cca24a9828d82367b892e56b03f0e4a439dafc54d640f5674f3237", func := "lexiphane/lexiphanelaw6.DictFirst", spec := "dictFirst", unfollowed := true, recurses := true, apart := false, narrowed := true }
def DictFirstUptoSaid : Prop := dictFirstUptoRow.holds Try.pinned (OpenSpec.upto dictFirstSpec)

end Rows
end Go.Proofs.Ytbnoeoghhbhhcaa
