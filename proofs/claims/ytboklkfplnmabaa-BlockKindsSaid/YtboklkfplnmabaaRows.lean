/-
  No cell of these rows narrows 'for every input' (looked for: loops, veiled, ifaces, maps, wideKeys, modest, calm, conditions, laid).
  DERIVED. THE GIVEN ROWS OF THIS SEAT. 8 by the template 'for every input the law returns true; each argument reads behind the call as it read before'; 0 by the template 'total and deterministic' (their statements: YtboklkfplnmabaaTotals.lean).
  GIVEN WITH THE SEED: the statements are not yours to turn. If you find one false, say at which input.
  Laid BY PROGRAM, IN A SANDBOX (cutbox-rows.mjs): the forced cells as the released guide's own fill.sh prints them over the translation afc45e8b3d073552… (all of the seat's roots in one cut). By AI agents, Wed Nov 11 2026. No macro, syntax, notation, axiom, sorry.
-/
import Derived.Test.YtboklkfplnmabaaChecked
import GoSem.Claim
import GoSem.ClaimJoined
import GoSem.ClaimMapViews
import Derived.JoinedTies
import Derived.KernelRfl
namespace Go.Proofs.Ytboklkfplnmabaa
/- THE CELL 'sum', in the pinned program and in every row, IS THE sha256 OF THE DUMP (.gsa) THAT YtboklkfplnmabaaProg.lean LOADS. Nothing in Lean hashes anything: it is a label: what it is worth is what the hold of that sum in a sandbox is worth. -/
noncomputable def Try.pinned : Pinned := { name := "ytboklkfplnmabaa", sum := "afc45e8b3d07355256590e7b818b737d7a9d211720514e133658e48974845992", checked := Try.checked }
namespace Rows
def none {H : Type} : Left H := { results := [], args := [] }

/-- 'lexiphanelaw22.BlockStores': WHATEVER THE INPUT: true; the input reads as it did. -/
def blockStoresSpec : ChangeSpec := { name := "blockStores", fn := fun _ => fun
  | [d1, d2] => { results := [.lit (.bool true)], args := [d1, d2] }
  | _ => none }
def blockStoresRow : OpenClaim := { program := "ytboklkfplnmabaa", sum := "afc45e8b3d07355256590e7b818b737d7a9d211720514e133658e48974845992", func := "lexiphane/lexiphanelaw22.BlockStores", spec := "blockStores", unfollowed := true, recurses := true, apart := false }
def BlockStoresSaid : Prop := blockStoresRow.holds Try.pinned (OpenSpec.ofChange blockStoresSpec)

/-- ITS FALSE NEIGHBOUR: 'it returns false'. Refute it at one input. -/
def blockStoresWrong : ChangeSpec := { name := "blockStores", fn := fun _ => fun
  | [d1, d2] => { results := [.lit (.bool false)], args := [d1, d2] }
  | _ => none }
def BlockStoresWrongFalsely : Prop := blockStoresRow.holds Try.pinned (OpenSpec.ofChange blockStoresWrong)

/-- 'lexiphanelaw22.BlockWrong': WHATEVER THE INPUT: true; the input reads as it did. -/
def blockWrongSpec : ChangeSpec := { name := "blockWrong", fn := fun _ => fun
  | [d1, d2, d3, d4] => { results := [.lit (.bool true)], args := [d1, d2, d3, d4] }
  | _ => none }
def blockWrongRow : OpenClaim := { program := "ytboklkfplnmabaa", sum := "afc45e8b3d07355256590e7b818b737d7a9d211720514e133658e48974845992", func := "lexiphane/lexiphanelaw22.BlockWrong", spec := "blockWrong", unfollowed := true, recurses := true, apart := false }
def BlockWrongSaid : Prop := blockWrongRow.holds Try.pinned (OpenSpec.ofChange blockWrongSpec)

/-- ITS FALSE NEIGHBOUR: 'it returns false'. Refute it at one input. -/
def blockWrongWrong : ChangeSpec := { name := "blockWrong", fn := fun _ => fun
  | [d1, d2, d3, d4] => { results := [.lit (.bool false)], args := [d1, d2, d3, d4] }
  | _ => none }
def BlockWrongWrongFalsely : Prop := blockWrongRow.holds Try.pinned (OpenSpec.ofChange blockWrongWrong)

/-- 'lexiphanelaw22.BlockKinds': WHATEVER THE INPUT: true; the input reads as it did. -/
def blockKindsSpec : ChangeSpec := { name := "blockKinds", fn := fun _ => fun
  | [d1, d2, d3, d4] => { results := [.lit (.bool true)], args := [d1, d2, d3, d4] }
  | _ => none }
def blockKindsRow : OpenClaim := { program := "ytboklkfplnmabaa", sum := "afc45e8b3d07355256590e7b818b737d7a9d211720514e133658e48974845992", func := "lexiphane/lexiphanelaw22.BlockKinds", spec := "blockKinds", unfollowed := true, recurses := true, apart := false }
def BlockKindsSaid : Prop := blockKindsRow.holds Try.pinned (OpenSpec.ofChange blockKindsSpec)

/-- ITS FALSE NEIGHBOUR: 'it returns false'. Refute it at one input. -/
def blockKindsWrong : ChangeSpec := { name := "blockKinds", fn := fun _ => fun
  | [d1, d2, d3, d4] => { results := [.lit (.bool false)], args := [d1, d2, d3, d4] }
  | _ => none }
def BlockKindsWrongFalsely : Prop := blockKindsRow.holds Try.pinned (OpenSpec.ofChange blockKindsWrong)

/-- 'lexiphanelaw22.BlockShort': WHATEVER THE INPUT: true; the input reads as it did. -/
def blockShortSpec : ChangeSpec := { name := "blockShort", fn := fun _ => fun
  | [d1, d2] => { results := [.lit (.bool true)], args := [d1, d2] }
  | _ => none }
def blockShortRow : OpenClaim := { program := "ytboklkfplnmabaa", sum := "afc45e8b3d07355256590e7b818b737d7a9d211720514e133658e48974845992", func := "lexiphane/lexiphanelaw22.BlockShort", spec := "blockShort", unfollowed := true, recurses := true, apart := false }
def BlockShortSaid : Prop := blockShortRow.holds Try.pinned (OpenSpec.ofChange blockShortSpec)

/-- ITS FALSE NEIGHBOUR: 'it returns false'. Refute it at one input. -/
def blockShortWrong : ChangeSpec := { name := "blockShort", fn := fun _ => fun
  | [d1, d2] => { results := [.lit (.bool false)], args := [d1, d2] }
  | _ => none }
def BlockShortWrongFalsely : Prop := blockShortRow.holds Try.pinned (OpenSpec.ofChange blockShortWrong)

/-- 'lexiphanelaw22.BlockTokens': WHATEVER THE INPUT: true; the input reads as it did. -/
def blockTokensSpec : ChangeSpec := { name := "blockTokens", fn := fun _ => fun
  | [d1, d2, d3] => { results := [.lit (.bool true)], args := [d1, d2, d3] }
  | _ => none }
def blockTokensRow : OpenClaim := { program := "ytboklkfplnmabaa", sum := "afc45e8b3d07355256590e7b818b737d7a9d211720514e133658e48974845992", func := "lexiphane/lexiphanelaw22.BlockTokens", spec := "blockTokens", unfollowed := true, recurses := true, apart := false }
def BlockTokensSaid : Prop := blockTokensRow.holds Try.pinned (OpenSpec.ofChange blockTokensSpec)

/-- ITS FALSE NEIGHBOUR: 'it returns false'. Refute it at one input. -/
def blockTokensWrong : ChangeSpec := { name := "blockTokens", fn := fun _ => fun
  | [d1, d2, d3] => { results := [.lit (.bool false)], args := [d1, d2, d3] }
  | _ => none }
def BlockTokensWrongFalsely : Prop := blockTokensRow.holds Try.pinned (OpenSpec.ofChange blockTokensWrong)

/-- 'lexiphanelaw22.BlockRight': WHATEVER THE INPUT: true; the input reads as it did. -/
def blockRightSpec : ChangeSpec := { name := "blockRight", fn := fun _ => fun
  | [d1, d2] => { results := [.lit (.bool true)], args := [d1, d2] }
  | _ => none }
def blockRightRow : OpenClaim := { program := "ytboklkfplnmabaa", sum := "afc45e8b3d07355256590e7b818b737d7a9d211720514e133658e48974845992", func := "lexiphane/lexiphanelaw22.BlockRight", spec := "blockRight", unfollowed := true, recurses := true, apart := false }
def BlockRightSaid : Prop := blockRightRow.holds Try.pinned (OpenSpec.ofChange blockRightSpec)

/-- ITS FALSE NEIGHBOUR: 'it returns false'. Refute it at one input. -/
def blockRightWrong : ChangeSpec := { name := "blockRight", fn := fun _ => fun
  | [d1, d2] => { results := [.lit (.bool false)], args := [d1, d2] }
  | _ => none }
def BlockRightWrongFalsely : Prop := blockRightRow.holds Try.pinned (OpenSpec.ofChange blockRightWrong)

/-- 'lexiphanelaw22.BlockJoins': WHATEVER THE INPUT: true; the input reads as it did. -/
def blockJoinsSpec : ChangeSpec := { name := "blockJoins", fn := fun _ => fun
  | [d1, d2, d3] => { results := [.lit (.bool true)], args := [d1, d2, d3] }
  | _ => none }
def blockJoinsRow : OpenClaim := { program := "ytboklkfplnmabaa", sum := "afc45e8b3d07355256590e7b818b737d7a9d211720514e133658e48974845992", func := "lexiphane/lexiphanelaw22.BlockJoins", spec := "blockJoins", unfollowed := true, recurses := true, apart := false }
def BlockJoinsSaid : Prop := blockJoinsRow.holds Try.pinned (OpenSpec.ofChange blockJoinsSpec)

/-- ITS FALSE NEIGHBOUR: 'it returns false'. Refute it at one input. -/
def blockJoinsWrong : ChangeSpec := { name := "blockJoins", fn := fun _ => fun
  | [d1, d2, d3] => { results := [.lit (.bool false)], args := [d1, d2, d3] }
  | _ => none }
def BlockJoinsWrongFalsely : Prop := blockJoinsRow.holds Try.pinned (OpenSpec.ofChange blockJoinsWrong)

/-- 'lexiphanelaw22.BlockLeast': WHATEVER THE INPUT: true; the input reads as it did. -/
def blockLeastSpec : ChangeSpec := { name := "blockLeast", fn := fun _ => fun
  | [d1, d2, d3] => { results := [.lit (.bool true)], args := [d1, d2, d3] }
  | _ => none }
def blockLeastRow : OpenClaim := { program := "ytboklkfplnmabaa", sum := "afc45e8b3d07355256590e7b818b737d7a9d211720514e133658e48974845992", func := "lexiphane/lexiphanelaw22.BlockLeast", spec := "blockLeast", unfollowed := true, recurses := true, apart := false }
def BlockLeastSaid : Prop := blockLeastRow.holds Try.pinned (OpenSpec.ofChange blockLeastSpec)

/-- ITS FALSE NEIGHBOUR: 'it returns false'. Refute it at one input. -/
def blockLeastWrong : ChangeSpec := { name := "blockLeast", fn := fun _ => fun
  | [d1, d2, d3] => { results := [.lit (.bool false)], args := [d1, d2, d3] }
  | _ => none }
def BlockLeastWrongFalsely : Prop := blockLeastRow.holds Try.pinned (OpenSpec.ofChange blockLeastWrong)

/- THE SECOND FORM. 'bulk': how many values and letters a reading holds, each counted each time it is reached (what is shared counts as often as it is met; a slice's spare places count too). A statement '..UptoSaid' is the law's where the arguments, and the package variables that the reading takes, are together of bulk at most 1048576: NARROWER than '..Said'. Prove '..Said' where nothing that the law and all that it calls make is longer than what came in: it says more and counts as full. Else prove '..UptoSaid'. A law counts once. -/
mutual
def uptoBulk {H : Type} : DataW H → Nat
  | .lit (.string bytes) => bytes.length + 1
  | .lit _ => 1
  | .nil => 1
  | .ptr d => uptoBulk d + 1
  | .slice elems spare => uptoBulkAll elems + uptoBulkAll spare + 1
  | .agg parts => uptoBulkAll parts + 1
  | .iface _ d => uptoBulk d + 1
  | .map entries => uptoBulkEntries entries + 1
  | .held _ => 1
def uptoBulkAll {H : Type} : List (DataW H) → Nat
  | [] => 0
  | d :: r => uptoBulk d + uptoBulkAll r
def uptoBulkEntries {H : Type} : List (Lit × DataW H) → Nat
  | [] => 0
  | x :: r => uptoBulkEntry x + uptoBulkEntries r
def uptoBulkEntry {H : Type} : Lit × DataW H → Nat
  | (.string bytes, d) => bytes.length + uptoBulk d + 1
  | (_, d) => uptoBulk d + 1
 end
def uptoSmall : (H : Type) → List (DataW H) → Bool := fun _ ds => decide (uptoBulkAll ds ≤ 1048576)
def OpenSpec.upto (s : _root_.Go.ChangeSpec) : _root_.Go.OpenSpec := { _root_.Go.OpenSpec.ofChange s with cond := some uptoSmall }

/-- 'lexiphanelaw22.BlockStores', WHERE WHAT IT READS IS OF BULK AT MOST 1048576: true; the input reads as it did. -/
def blockStoresUptoRow : OpenClaim := { program := "ytboklkfplnmabaa", sum := "afc45e8b3d07355256590e7b818b737d7a9d211720514e133658e48974845992", func := "lexiphane/lexiphanelaw22.BlockStores", spec := "blockStores", unfollowed := true, recurses := true, apart := false, narrowed := true }
def BlockStoresUptoSaid : Prop := blockStoresUptoRow.holds Try.pinned (OpenSpec.upto blockStoresSpec)

/-- 'lexiphanelaw22.BlockWrong', WHERE WHAT IT READS IS OF BULK AT MOST 1048576: true; the input reads as it did. -/
def blockWrongUptoRow : OpenClaim := { program := "ytboklkfplnmabaa", sum := "afc45e8b3d07355256590e7b818b737d7a9d211720514e133658e48974845992", func := "lexiphane/lexiphanelaw22.BlockWrong", spec := "blockWrong", unfollowed := true, recurses := true, apart := false, narrowed := true }
def BlockWrongUptoSaid : Prop := blockWrongUptoRow.holds Try.pinned (OpenSpec.upto blockWrongSpec)

/-- 'lexiphanelaw22.BlockKinds', WHERE WHAT IT READS IS OF BULK AT MOST 1048576: true; the input reads as it did. -/
def blockKindsUptoRow : OpenClaim := { program := "ytboklkfplnmabaa", sum := "afc45e8b3d07355256590e7b818b737d7a9d211720514e133658e48974845992", func := "lexiphane/lexiphanelaw22.BlockKinds", spec := "blockKinds", unfollowed := true, recurses := true, apart := false, narrowed := true }
def BlockKindsUptoSaid : Prop := blockKindsUptoRow.holds Try.pinned (OpenSpec.upto blockKindsSpec)

/-- 'lexiphanelaw22.BlockShort', WHERE WHAT IT READS IS OF BULK AT MOST 1048576: true; the input reads as it did. -/
def blockShortUptoRow : OpenClaim := { program := "ytboklkfplnmabaa", sum := "afc45e8b3d07355256590e7b818b737d7a9d211720514e133658e48974845992", func := "lexiphane/lexiphanelaw22.BlockShort", spec := "blockShort", unfollowed := true, recurses := true, apart := false, narrowed := true }
def BlockShortUptoSaid : Prop := blockShortUptoRow.holds Try.pinned (OpenSpec.upto blockShortSpec)

/-- 'lexiphanelaw22.BlockTokens', WHERE WHAT IT READS IS OF BULK AT MOST 1048576: true; the input reads as it did. -/
def blockTokensUptoRow : OpenClaim := { program := "ytboklkfplnmabaa", sum := "afc45e8b3d07355256590e7b818b737d7a9d211720514e133658e48974845992", func := "lexiphane/lexiphanelaw22.BlockTokens", spec := "blockTokens", unfollowed := true, recurses := true, apart := false, narrowed := true }
def BlockTokensUptoSaid : Prop := blockTokensUptoRow.holds Try.pinned (OpenSpec.upto blockTokensSpec)

/-- 'lexiphanelaw22.BlockRight', WHERE WHAT IT READS IS OF BULK AT MOST 1048576: true; the input reads as it did. -/
def blockRightUptoRow : OpenClaim := { program := "ytboklkfplnmabaa", sum := "afc45e8b3d07355256590e7b818b737d7a9d211720514e133658e48974845992", func := "lexiphane/lexiphanelaw22.BlockRight", spec := "blockRight", unfollowed := true, recurses := true, apart := false, narrowed := true }
def BlockRightUptoSaid : Prop := blockRightUptoRow.holds Try.pinned (OpenSpec.upto blockRightSpec)

/-- 'lexiphanelaw22.BlockJoins', WHERE WHAT IT READS IS OF BULK AT MOST 1048576: true; the input reads as it did. -/
def blockJoinsUptoRow : OpenClaim := { program := "ytboklkfplnmabaa", sum := "afc45e8b3d07355256590e7b818b737d7a9d211720514e133658e48974845992", func := "lexiphane/lexiphanelaw22.BlockJoins", spec := "blockJoins", unfollowed := true, recurses := true, apart := false, narrowed := true }
def BlockJoinsUptoSaid : Prop := blockJoinsUptoRow.holds Try.pinned (OpenSpec.upto blockJoinsSpec)

/-- 'lexiphanelaw22.BlockLeast', WHERE WHAT IT READS IS OF BULK AT MOST 1048576: true; the input reads as it did. -/
def blockLeastUptoRow : OpenClaim := { program := "ytboklkfplnmabaa", sum := "afc45e8b3d07355256590e7b818b737d7a9d211720514e133658e48974845992", func := "lexiphane/lexiphanelaw22.BlockLeast", spec := "blockLeast", unfollowed := true, recurses := true, apart := false, narrowed := true }
def BlockLeastUptoSaid : Prop := blockLeastUptoRow.holds Try.pinned (OpenSpec.upto blockLeastSpec)

end Rows
end Go.Proofs.Ytboklkfplnmabaa
