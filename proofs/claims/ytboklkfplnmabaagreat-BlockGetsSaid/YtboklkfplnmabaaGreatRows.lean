/-
  No cell of these rows narrows 'for every input' (looked for: loops, veiled, ifaces, maps, wideKeys, modest, calm, conditions, laid).
  DERIVED. THE GIVEN ROWS OF THIS SEAT. 4 by the template 'for every input the law returns true; each argument reads behind the call as it read before'; 0 by the template 'total and deterministic' (their statements: YtboklkfplnmabaaGreatTotals.lean).
  GIVEN WITH THE SEED: the statements are not yours to turn. If you find one false, say at which input.
  Laid BY PROGRAM, IN A SANDBOX (cutbox-rows.mjs): the forced cells as the released guide's own fill.sh prints them over the translation bceb835840d7b428… (all of the seat's roots in one cut). By AI agents, Wed Nov 11 2026. No macro, syntax, notation, axiom, sorry.
-/
import Derived.Test.YtboklkfplnmabaaGreatChecked
import GoSem.Claim
import GoSem.ClaimJoined
import GoSem.ClaimMapViews
import Derived.JoinedTies
import Derived.KernelRfl
namespace Go.Proofs.YtboklkfplnmabaaGreat
/- THE CELL 'sum', in the pinned program and in every row, IS THE sha256 OF THE DUMP (.gsa) THAT YtboklkfplnmabaaGreatProg.lean LOADS. Nothing in Lean hashes anything: it is a label: what it is worth is what the hold of that sum in a sandbox is worth. -/
noncomputable def Tryz.pinned : Pinned := { name := "ytboklkfplnmabaagreat", sum := "bceb835840d7b4287ca0908e3f0ac1ea1c28d1e453dcea697bdbb5f194086fed", checked := Tryz.checked }
namespace Rows
def none {H : Type} : Left H := { results := [], args := [] }

/-- 'lexiphanelaw22.BlockTells': WHATEVER THE INPUT: true; the input reads as it did. -/
def blockTellsSpec : ChangeSpec := { name := "blockTells", fn := fun _ => fun
  | [d1, d2, d3] => { results := [.lit (.bool true)], args := [d1, d2, d3] }
  | _ => none }
def blockTellsRow : OpenClaim := { program := "ytboklkfplnmabaagreat", sum := "bceb835840d7b4287ca0908e3f0ac1ea1c28d1e453dcea697bdbb5f194086fed", func := "lexiphane/lexiphanelaw22.BlockTells", spec := "blockTells", unfollowed := true, recurses := true, apart := false }
def BlockTellsSaid : Prop := blockTellsRow.holds Tryz.pinned (OpenSpec.ofChange blockTellsSpec)

/-- ITS FALSE NEIGHBOUR: 'it returns false'. Refute it at one input. -/
def blockTellsWrong : ChangeSpec := { name := "blockTells", fn := fun _ => fun
  | [d1, d2, d3] => { results := [.lit (.bool false)], args := [d1, d2, d3] }
  | _ => none }
def BlockTellsWrongFalsely : Prop := blockTellsRow.holds Tryz.pinned (OpenSpec.ofChange blockTellsWrong)

/-- 'lexiphanelaw22.BlockLays': WHATEVER THE INPUT: true; the input reads as it did. -/
def blockLaysSpec : ChangeSpec := { name := "blockLays", fn := fun _ => fun
  | [d1, d2, d3] => { results := [.lit (.bool true)], args := [d1, d2, d3] }
  | _ => none }
def blockLaysRow : OpenClaim := { program := "ytboklkfplnmabaagreat", sum := "bceb835840d7b4287ca0908e3f0ac1ea1c28d1e453dcea697bdbb5f194086fed", func := "lexiphane/lexiphanelaw22.BlockLays", spec := "blockLays", unfollowed := true, recurses := true, apart := false }
def BlockLaysSaid : Prop := blockLaysRow.holds Tryz.pinned (OpenSpec.ofChange blockLaysSpec)

/-- ITS FALSE NEIGHBOUR: 'it returns false'. Refute it at one input. -/
def blockLaysWrong : ChangeSpec := { name := "blockLays", fn := fun _ => fun
  | [d1, d2, d3] => { results := [.lit (.bool false)], args := [d1, d2, d3] }
  | _ => none }
def BlockLaysWrongFalsely : Prop := blockLaysRow.holds Tryz.pinned (OpenSpec.ofChange blockLaysWrong)

/-- 'lexiphanelaw22.BlockGets': WHATEVER THE INPUT: true; the input reads as it did. -/
def blockGetsSpec : ChangeSpec := { name := "blockGets", fn := fun _ => fun
  | [d1, d2, d3, d4, d5] => { results := [.lit (.bool true)], args := [d1, d2, d3, d4, d5] }
  | _ => none }
def blockGetsRow : OpenClaim := { program := "ytboklkfplnmabaagreat", sum := "bceb835840d7b4287ca0908e3f0ac1ea1c28d1e453dcea697bdbb5f194086fed", func := "lexiphane/lexiphanelaw22.BlockGets", spec := "blockGets", unfollowed := true, recurses := true, apart := false }
def BlockGetsSaid : Prop := blockGetsRow.holds Tryz.pinned (OpenSpec.ofChange blockGetsSpec)

/-- ITS FALSE NEIGHBOUR: 'it returns false'. Refute it at one input. -/
def blockGetsWrong : ChangeSpec := { name := "blockGets", fn := fun _ => fun
  | [d1, d2, d3, d4, d5] => { results := [.lit (.bool false)], args := [d1, d2, d3, d4, d5] }
  | _ => none }
def BlockGetsWrongFalsely : Prop := blockGetsRow.holds Tryz.pinned (OpenSpec.ofChange blockGetsWrong)

/-- 'lexiphanelaw22.BlockTurned': WHATEVER THE INPUT: true; the input reads as it did. -/
def blockTurnedSpec : ChangeSpec := { name := "blockTurned", fn := fun _ => fun
  | [d1, d2, d3, d4, d5] => { results := [.lit (.bool true)], args := [d1, d2, d3, d4, d5] }
  | _ => none }
def blockTurnedRow : OpenClaim := { program := "ytboklkfplnmabaagreat", sum := "bceb835840d7b4287ca0908e3f0ac1ea1c28d1e453dcea697bdbb5f194086fed", func := "lexiphane/lexiphanelaw22.BlockTurned", spec := "blockTurned", unfollowed := true, recurses := true, apart := false }
def BlockTurnedSaid : Prop := blockTurnedRow.holds Tryz.pinned (OpenSpec.ofChange blockTurnedSpec)

/-- ITS FALSE NEIGHBOUR: 'it returns false'. Refute it at one input. -/
def blockTurnedWrong : ChangeSpec := { name := "blockTurned", fn := fun _ => fun
  | [d1, d2, d3, d4, d5] => { results := [.lit (.bool false)], args := [d1, d2, d3, d4, d5] }
  | _ => none }
def BlockTurnedWrongFalsely : Prop := blockTurnedRow.holds Tryz.pinned (OpenSpec.ofChange blockTurnedWrong)

/- THE SECOND FORM. 'bulk': how many values and letters a reading holds, each counted each time it is reached (what is shared counts as often as it is met; a slice's spare places count too). A statement '..UptoSaid' is the law's where the arguments, and the package variables that the reading takes, are together of bulk at most 1048576: NARROWER than '..Said'. Prove '..Said' where nothing that the law and all that it calls make is longer than what came in: it says more and counts as full. Else prove '..UptoSaid'. A law counts once. -/
mutual
def uptoBulk {H : Type} : DataW H → Nat
  | .lit (.string bytes) => bytes.length + 1
  | .lit _ => 1
  | .nil => 1
  | .ptr d => uptoBulk d + 1
  | .slice elems spare => uptoBulkAll elems + uptoBulkAll spare + 1
  | .agg parts => uptoBulkAll parts + 1
  | .iface _ d => uptoBulk d + 1
  | .map entries => uptoBulkEntries entries + 1
  | .held _ => 1
def uptoBulkAll {H : Type} : List (DataW H) → Nat
  | [] => 0
  | d :: r => uptoBulk d + uptoBulkAll r
def uptoBulkEntries {H : Type} : List (Lit × DataW H) → Nat
  | [] => 0
  | x :: r => uptoBulkEntry x + uptoBulkEntries r
def uptoBulkEntry {H : Type} : Lit × DataW H → Nat
  | (.string bytes, d) => bytes.length + uptoBulk d + 1
  | (_, d) => uptoBulk d + 1
 end
def uptoSmall : (H : Type) → List (DataW H) → Bool := fun _ ds => decide (uptoBulkAll ds ≤ 1048576)
def OpenSpec.upto (s : _root_.Go.ChangeSpec) : _root_.Go.OpenSpec := { _root_.Go.OpenSpec.ofChange s with cond := some uptoSmall }

/-- 'lexiphanelaw22.BlockTells', WHERE WHAT IT READS IS OF BULK AT MOST 1048576: true; the input reads as it did. -/
def blockTellsUptoRow : OpenClaim := { program := "ytboklkfplnmabaagreat", sum := "bceb835840d7b4287ca0908e3f0ac1ea1c28d1e453dcea697bdbb5f194086fed", func := "lexiphane/lexiphanelaw22.BlockTells", spec := "blockTells", unfollowed := true, recurses := true, apart := false, narrowed := true }
def BlockTellsUptoSaid : Prop := blockTellsUptoRow.holds Tryz.pinned (OpenSpec.upto blockTellsSpec)

/-- 'lexiphanelaw22.BlockLays', WHERE WHAT IT READS IS OF BULK AT MOST 1048576: true; the input reads as it did. -/
def blockLaysUptoRow : OpenClaim := { program := "ytboklkfplnmabaagreat", sum := "bceb835840d7b4287ca0908e3f0ac1ea1c28d1e453dcea697bdbb5f194086fed", func := "lexiphane/lexiphanelaw22.BlockLays", spec := "blockLays", unfollowed := true, recurses := true, apart := false, narrowed := true }
def BlockLaysUptoSaid : Prop := blockLaysUptoRow.holds Tryz.pinned (OpenSpec.upto blockLaysSpec)

/-- 'lexiphanelaw22.BlockGets', WHERE WHAT IT READS IS OF BULK AT MOST 1048576: true; the input reads as it did. -/
def blockGetsUptoRow : OpenClaim := { program := "ytboklkfplnmabaagreat", sum := "bceb835840d7b4287ca0908e3f0ac1ea1c28d1e453dcea697bdbb5f194086fed", func := "lexiphane/lexiphanelaw22.BlockGets", spec := "blockGets", unfollowed := true, recurses := true, apart := false, narrowed := true }
def BlockGetsUptoSaid : Prop := blockGetsUptoRow.holds Tryz.pinned (OpenSpec.upto blockGetsSpec)

/-- 'lexiphanelaw22.BlockTurned', WHERE WHAT IT READS IS OF BULK AT MOST 1048576: true; the input reads as it did. -/
def blockTurnedUptoRow : OpenClaim := { program := "ytboklkfplnmabaagreat", sum := "bceb835840d7b4287ca0908e3f0ac1ea1c28d1e453dcea697bdbb5f194086fed", func := "lexiphane/lexiphanelaw22.BlockTurned", spec := "blockTurned", unfollowed := true, recurses := true, apart := false, narrowed := true }
def BlockTurnedUptoSaid : Prop := blockTurnedUptoRow.holds Tryz.pinned (OpenSpec.upto blockTurnedSpec)

end Rows
end Go.Proofs.YtboklkfplnmabaaGreat
