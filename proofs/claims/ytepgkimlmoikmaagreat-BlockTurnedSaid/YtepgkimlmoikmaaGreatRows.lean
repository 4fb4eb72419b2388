/-
  No cell of these rows narrows 'for every input' (looked for: loops, veiled, ifaces, maps, wideKeys, modest, calm, conditions, laid).
  DERIVED. THE GIVEN ROWS OF THIS SEAT. 16 by the template 'for every input the law returns true; each argument reads behind the call as it read before'; 0 by the template 'total and deterministic' (their statements: YtepgkimlmoikmaaGreatTotals.lean).
  GIVEN WITH THE SEED: the statements are not yours to turn. If you find one false, say at which input.
  Laid BY PROGRAM, IN A SANDBOX (cutbox-rows.mjs): the forced cells as the released guide's own fill.sh prints them over the translation 026228874c643336… (all of the seat's roots in one cut). By AI agents, Wed Nov 11 2026. No macro, syntax, notation, axiom, sorry.
-/
import Derived.Test.YtepgkimlmoikmaaGreatChecked
import GoSem.Claim
import GoSem.ClaimJoined
import GoSem.ClaimMapViews
import Derived.JoinedTies
import Derived.KernelRfl
namespace Go.Proofs.YtepgkimlmoikmaaGreat
/- THE CELL 'sum', in the pinned program and in every row, IS THE sha256 OF THE DUMP (.gsa) THAT YtepgkimlmoikmaaGreatProg.lean LOADS. Nothing in Lean hashes anything: it is a label: what it is worth is what the hold of that sum in a sandbox is worth. -/
noncomputable def Tryz.pinned : Pinned := { name := "ytepgkimlmoikmaagreat", sum := "026228874c643336ad029e9f5aa9654aa63e9d2c54f47fe1b8def586501f7e1a", checked := Tryz.checked }
namespace Rows
def none {H : Type} : Left H := { results := [], args := [] }

/-- 'lexiphanelaw22.BlockTells': WHATEVER THE INPUT: true; the input reads as it did. -/
def blockTellsSpec : ChangeSpec := { name := "blockTells", fn := fun _ => fun
  | [d1, d2, d3] => { results := [.lit (.bool true)], args := [d1, d2, d3] }
  | _ => none }
def blockTellsRow : OpenClaim := { program := "ytepgkimlmoikmaagreat", sum := "026228874c643336ad029e9f5aa9654aa63e9d2c54f47fe1b8def586501f7e1a", func := "lexiphane/lexiphanelaw22.BlockTells", spec := "blockTells", unfollowed := true, recurses := true, apart := false }
def BlockTellsSaid : Prop := blockTellsRow.holds Tryz.pinned (OpenSpec.ofChange blockTellsSpec)

/-- ITS FALSE NEIGHBOUR: 'it returns false'. Refute it at one input. -/
def blockTellsWrong : ChangeSpec := { name := "blockTells", fn := fun _ => fun
  | [d1, d2, d3] => { results := [.lit (.bool false)], args := [d1, d2, d3] }
  | _ => none }
def BlockTellsWrongFalsely : Prop := blockTellsRow.holds Tryz.pinned (OpenSpec.ofChange blockTellsWrong)

/-- 'lexiphanelaw22.BlockLays': WHATEVER THE INPUT: true; the input reads as it did. -/
def blockLaysSpec : ChangeSpec := { name := "blockLays", fn := fun _ => fun
  | [d1, d2, d3] => { results := [.lit (.bool true)], args := [d1, d2, d3] }
  | _ => none }
def blockLaysRow : OpenClaim := { program := "ytepgkimlmoikmaagreat", sum := "026228874c643336ad029e9f5aa9654aa63e9d2c54f47fe1b8def586501f7e1a", func := "lexiphane/lexiphanelaw22.BlockLays", spec := "blockLays", unfollowed := true, recurses := true, apart := false }
def BlockLaysSaid : Prop := blockLaysRow.holds Tryz.pinned (OpenSpec.ofChange blockLaysSpec)

/-- ITS FALSE NEIGHBOUR: 'it returns false'. Refute it at one input. -/
def blockLaysWrong : ChangeSpec := { name := "blockLays", fn := fun _ => fun
  | [d1, d2, d3] => { results := [.lit (.bool false)], args := [d1, d2, d3] }
  | _ => none }
def BlockLaysWrongFalsely : Prop := blockLaysRow.holds Tryz.pinned (OpenSpec.ofChange blockLaysWrong)

/-- 'lexiphanelaw22.BlockTurned': WHATEVER THE INPUT: true; the input reads as it did. -/
def blockTurnedSpec : ChangeSpec := { name := "blockTurned", fn := fun _ => fun
  | [d1, d2, d3, d4, d5] => { results := [.lit (.bool true)], args := [d1, d2, d3, d4, d5] }
  | _ => none }
def blockTurnedRow : OpenClaim := { program := "ytepgkimlmoikmaagreat", sum := "026228874c643336ad029e9f5aa9654aa63e9d2c54f47fe1b8def586501f7e1a", func := "lexiphane/lexiphanelaw22.BlockTurned", spec := "blockTurned", unfollowed := true, recurses := true, apart := false }
def BlockTurnedSaid : Prop := blockTurnedRow.holds Tryz.pinned (OpenSpec.ofChange blockTurnedSpec)

/-- ITS FALSE NEIGHBOUR: 'it returns false'. Refute it at one input. -/
def blockTurnedWrong : ChangeSpec := { name := "blockTurned", fn := fun _ => fun
  | [d1, d2, d3, d4, d5] => { results := [.lit (.bool false)], args := [d1, d2, d3, d4, d5] }
  | _ => none }
def BlockTurnedWrongFalsely : Prop := blockTurnedRow.holds Tryz.pinned (OpenSpec.ofChange blockTurnedWrong)

/-- 'lexiphanelaw24.CoderFlushes': WHATEVER THE INPUT: true; the input reads as it did. -/
def coderFlushesSpec : ChangeSpec := { name := "coderFlushes", fn := fun _ => fun
  | [d1, d2, d3, d4] => { results := [.lit (.bool true)], args := [d1, d2, d3, d4] }
  | _ => none }
def coderFlushesRow : OpenClaim := { program := "ytepgkimlmoikmaagreat", sum := "026228874c643336ad029e9f5aa9654aa63e9d2c54f47fe1b8def586501f7e1a", func := "lexiphane/lexiphanelaw24.CoderFlushes", spec := "coderFlushes", unfollowed := true, recurses := true, apart := false }
def CoderFlushesSaid : Prop := coderFlushesRow.holds Tryz.pinned (OpenSpec.ofChange coderFlushesSpec)

/-- ITS FALSE NEIGHBOUR: 'it returns false'. Refute it at one input. -/
def coderFlushesWrong : ChangeSpec := { name := "coderFlushes", fn := fun _ => fun
  | [d1, d2, d3, d4] => { results := [.lit (.bool false)], args := [d1, d2, d3, d4] }
  | _ => none }
def CoderFlushesWrongFalsely : Prop := coderFlushesRow.holds Tryz.pinned (OpenSpec.ofChange coderFlushesWrong)

/-- 'lexiphanelaw24.CoderBlocks': WHATEVER THE INPUT: true; the input reads as it did. -/
def coderBlocksSpec : ChangeSpec := { name := "coderBlocks", fn := fun _ => fun
  | [d1, d2, d3] => { results := [.lit (.bool true)], args := [d1, d2, d3] }
  | _ => none }
def coderBlocksRow : OpenClaim := { program := "ytepgkimlmoikmaagreat", sum := "026228874c643336ad029e9f5aa9654aa63e9d2c54f47fe1b8def586501f7e1a", func := "lexiphane/lexiphanelaw24.CoderBlocks", spec := "coderBlocks", unfollowed := true, recurses := true, apart := false }
def CoderBlocksSaid : Prop := coderBlocksRow.holds Tryz.pinned (OpenSpec.ofChange coderBlocksSpec)

/-- ITS FALSE NEIGHBOUR: 'it returns false'. Refute it at one input. -/
def coderBlocksWrong : ChangeSpec := { name := "coderBlocks", fn := fun _ => fun
  | [d1, d2, d3] => { results := [.lit (.bool false)], args := [d1, d2, d3] }
  | _ => none }
def CoderBlocksWrongFalsely : Prop := coderBlocksRow.holds Tryz.pinned (OpenSpec.ofChange coderBlocksWrong)

/-- 'lexiphanelaw24.CoderKinds': WHATEVER THE INPUT: true; the input reads as it did. -/
def coderKindsSpec : ChangeSpec := { name := "coderKinds", fn := fun _ => fun
  | [d1, d2, d3, d4] => { results := [.lit (.bool true)], args := [d1, d2, d3, d4] }
  | _ => none }
def coderKindsRow : OpenClaim := { program := "ytepgkimlmoikmaagreat", sum := "026228874c643336ad029e9f5aa9654aa63e9d2c54f47fe1b8def586501f7e1a", func := "lexiphane/lexiphanelaw24.CoderKinds", spec := "coderKinds", unfollowed := true, recurses := true, apart := false }
def CoderKindsSaid : Prop := coderKindsRow.holds Tryz.pinned (OpenSpec.ofChange coderKindsSpec)

/-- ITS FALSE NEIGHBOUR: 'it returns false'. Refute it at one input. -/
def coderKindsWrong : ChangeSpec := { name := "coderKinds", fn := fun _ => fun
  | [d1, d2, d3, d4] => { results := [.lit (.bool false)], args := [d1, d2, d3, d4] }
  | _ => none }
def CoderKindsWrongFalsely : Prop := coderKindsRow.holds Tryz.pinned (OpenSpec.ofChange coderKindsWrong)

/-- 'lexiphanelaw24.CoderPlays': WHATEVER THE INPUT: true; the input reads as it did. -/
def coderPlaysSpec : ChangeSpec := { name := "coderPlays", fn := fun _ => fun
  | [d1, d2, d3] => { results := [.lit (.bool true)], args := [d1, d2, d3] }
  | _ => none }
def coderPlaysRow : OpenClaim := { program := "ytepgkimlmoikmaagreat", sum := "026228874c643336ad029e9f5aa9654aa63e9d2c54f47fe1b8def586501f7e1a", func := "lexiphane/lexiphanelaw24.CoderPlays", spec := "coderPlays", unfollowed := true, recurses := true, apart := false }
def CoderPlaysSaid : Prop := coderPlaysRow.holds Tryz.pinned (OpenSpec.ofChange coderPlaysSpec)

/-- ITS FALSE NEIGHBOUR: 'it returns false'. Refute it at one input. -/
def coderPlaysWrong : ChangeSpec := { name := "coderPlays", fn := fun _ => fun
  | [d1, d2, d3] => { results := [.lit (.bool false)], args := [d1, d2, d3] }
  | _ => none }
def CoderPlaysWrongFalsely : Prop := coderPlaysRow.holds Tryz.pinned (OpenSpec.ofChange coderPlaysWrong)

/-- 'lexiphanelaw24.CoderRefuses': WHATEVER THE INPUT: true; the input reads as it did. -/
def coderRefusesSpec : ChangeSpec := { name := "coderRefuses", fn := fun _ => fun
  | [d1, d2] => { results := [.lit (.bool true)], args := [d1, d2] }
  | _ => none }
def coderRefusesRow : OpenClaim := { program := "ytepgkimlmoikmaagreat", sum := "026228874c643336ad029e9f5aa9654aa63e9d2c54f47fe1b8def586501f7e1a", func := "lexiphane/lexiphanelaw24.CoderRefuses", spec := "coderRefuses", unfollowed := true, recurses := true, apart := false }
def CoderRefusesSaid : Prop := coderRefusesRow.holds Tryz.pinned (OpenSpec.ofChange coderRefusesSpec)

/-- ITS FALSE NEIGHBOUR: 'it returns false'. Refute it at one input. -/
def coderRefusesWrong : ChangeSpec := { name := "coderRefuses", fn := fun _ => fun
  | [d1, d2] => { results := [.lit (.bool false)], args := [d1, d2] }
  | _ => none }
def CoderRefusesWrongFalsely : Prop := coderRefusesRow.holds Tryz.pinned (OpenSpec.ofChange coderRefusesWrong)

/-- 'lexiphanelaw24.CoderClosed': WHATEVER THE INPUT: true; the input reads as it did. -/
def coderClosedSpec : ChangeSpec := { name := "coderClosed", fn := fun _ => fun
  | [d1, d2, d3, d4, d5] => { results := [.lit (.bool true)], args := [d1, d2, d3, d4, d5] }
  | _ => none }
def coderClosedRow : OpenClaim := { program := "ytepgkimlmoikmaagreat", sum := "026228874c643336ad029e9f5aa9654aa63e9d2c54f47fe1b8def586501f7e1a", func := "lexiphane/lexiphanelaw24.CoderClosed", spec := "coderClosed", unfollowed := true, recurses := true, apart := false }
def CoderClosedSaid : Prop := coderClosedRow.holds Tryz.pinned (OpenSpec.ofChange coderClosedSpec)

/-- ITS FALSE NEIGHBOUR: 'it returns false'. Refute it at one input. -/
def coderClosedWrong : ChangeSpec := { name := "coderClosed", fn := fun _ => fun
  | [d1, d2, d3, d4, d5] => { results := [.lit (.bool false)], args := [d1, d2, d3, d4, d5] }
  | _ => none }
def CoderClosedWrongFalsely : Prop := coderClosedRow.holds Tryz.pinned (OpenSpec.ofChange coderClosedWrong)

/-- 'lexiphanelaw24.CoderWrites': WHATEVER THE INPUT: true; the input reads as it did. -/
def coderWritesSpec : ChangeSpec := { name := "coderWrites", fn := fun _ => fun
  | [d1, d2, d3, d4] => { results := [.lit (.bool true)], args := [d1, d2, d3, d4] }
  | _ => none }
def coderWritesRow : OpenClaim := { program := "ytepgkimlmoikmaagreat", sum := "026228874c643336ad029e9f5aa9654aa63e9d2c54f47fe1b8def586501f7e1a", func := "lexiphane/lexiphanelaw24.CoderWrites", spec := "coderWrites", unfollowed := true, recurses := true, apart := false }
def CoderWritesSaid : Prop := coderWritesRow.holds Tryz.pinned (OpenSpec.ofChange coderWritesSpec)

/-- ITS FALSE NEIGHBOUR: 'it returns false'. Refute it at one input. -/
def coderWritesWrong : ChangeSpec := { name := "coderWrites", fn := fun _ => fun
  | [d1, d2, d3, d4] => { results := [.lit (.bool false)], args := [d1, d2, d3, d4] }
  | _ => none }
def CoderWritesWrongFalsely : Prop := coderWritesRow.holds Tryz.pinned (OpenSpec.ofChange coderWritesWrong)

/-- 'lexiphanelaw24.CoderBytes': WHATEVER THE INPUT: true; the input reads as it did. -/
def coderBytesSpec : ChangeSpec := { name := "coderBytes", fn := fun _ => fun
  | [d1, d2, d3] => { results := [.lit (.bool true)], args := [d1, d2, d3] }
  | _ => none }
def coderBytesRow : OpenClaim := { program := "ytepgkimlmoikmaagreat", sum := "026228874c643336ad029e9f5aa9654aa63e9d2c54f47fe1b8def586501f7e1a", func := "lexiphane/lexiphanelaw24.CoderBytes", spec := "coderBytes", unfollowed := true, recurses := true, apart := false }
def CoderBytesSaid : Prop := coderBytesRow.holds Tryz.pinned (OpenSpec.ofChange coderBytesSpec)

/-- ITS FALSE NEIGHBOUR: 'it returns false'. Refute it at one input. -/
def coderBytesWrong : ChangeSpec := { name := "coderBytes", fn := fun _ => fun
  | [d1, d2, d3] => { results := [.lit (.bool false)], args := [d1, d2, d3] }
  | _ => none }
def CoderBytesWrongFalsely : Prop := coderBytesRow.holds Tryz.pinned (OpenSpec.ofChange coderBytesWrong)

/-- 'lexiphanelaw24.CoderHolds': WHATEVER THE INPUT: true; the input reads as it did. -/
def coderHoldsSpec : ChangeSpec := { name := "coderHolds", fn := fun _ => fun
  | [d1, d2, d3] => { results := [.lit (.bool true)], args := [d1, d2, d3] }
  | _ => none }
def coderHoldsRow : OpenClaim := { program := "ytepgkimlmoikmaagreat", sum := "026228874c643336ad029e9f5aa9654aa63e9d2c54f47fe1b8def586501f7e1a", func := "lexiphane/lexiphanelaw24.CoderHolds", spec := "coderHolds", unfollowed := true, recurses := true, apart := false }
def CoderHoldsSaid : Prop := coderHoldsRow.holds Tryz.pinned (OpenSpec.ofChange coderHoldsSpec)

/-- ITS FALSE NEIGHBOUR: 'it returns false'. Refute it at one input. -/
def coderHoldsWrong : ChangeSpec := { name := "coderHolds", fn := fun _ => fun
  | [d1, d2, d3] => { results := [.lit (.bool false)], args := [d1, d2, d3] }
  | _ => none }
def CoderHoldsWrongFalsely : Prop := coderHoldsRow.holds Tryz.pinned (OpenSpec.ofChange coderHoldsWrong)

/-- 'lexiphanelaw24.CoderBack': WHATEVER THE INPUT: true; the input reads as it did. -/
def coderBackSpec : ChangeSpec := { name := "coderBack", fn := fun _ => fun
  | [d1, d2, d3, d4] => { results := [.lit (.bool true)], args := [d1, d2, d3, d4] }
  | _ => none }
def coderBackRow : OpenClaim := { program := "ytepgkimlmoikmaagreat", sum := "026228874c643336ad029e9f5aa9654aa63e9d2c54f47fe1b8def586501f7e1a", func := "lexiphane/lexiphanelaw24.CoderBack", spec := "coderBack", unfollowed := true, recurses := true, apart := false }
def CoderBackSaid : Prop := coderBackRow.holds Tryz.pinned (OpenSpec.ofChange coderBackSpec)

/-- ITS FALSE NEIGHBOUR: 'it returns false'. Refute it at one input. -/
def coderBackWrong : ChangeSpec := { name := "coderBack", fn := fun _ => fun
  | [d1, d2, d3, d4] => { results := [.lit (.bool false)], args := [d1, d2, d3, d4] }
  | _ => none }
def CoderBackWrongFalsely : Prop := coderBackRow.holds Tryz.pinned (OpenSpec.ofChange coderBackWrong)

/-- 'lexiphanelaw24.CoderTotals': WHATEVER THE INPUT: true; the input reads as it did. -/
def coderTotalsSpec : ChangeSpec := { name := "coderTotals", fn := fun _ => fun
  | [d1, d2, d3, d4, d5] => { results := [.lit (.bool true)], args := [d1, d2, d3, d4, d5] }
  | _ => none }
def coderTotalsRow : OpenClaim := { program := "ytepgkimlmoikmaagreat", sum := "026228874c643336ad029e9f5aa9654aa63e9d2c54f47fe1b8def586501f7e1a", func := "lexiphane/lexiphanelaw24.CoderTotals", spec := "coderTotals", unfollowed := true, recurses := true, apart := false }
def CoderTotalsSaid : Prop := coderTotalsRow.holds Tryz.pinned (OpenSpec.ofChange coderTotalsSpec)

/-- ITS FALSE NEIGHBOUR: 'it returns false'. Refute it at one input. -/
def coderTotalsWrong : ChangeSpec := { name := "coderTotals", fn := fun _ => fun
  | [d1, d2, d3, d4, d5] => { results := [.lit (.bool false)], args := [d1, d2, d3, d4, d5] }
  | _ => none }
def CoderTotalsWrongFalsely : Prop := coderTotalsRow.holds Tryz.pinned (OpenSpec.ofChange coderTotalsWrong)

/-- 'lexiphanelaw24.CoderSums': WHATEVER THE INPUT: true; the input reads as it did. -/
def coderSumsSpec : ChangeSpec := { name := "coderSums", fn := fun _ => fun
  | [d1, d2, d3, d4, d5] => { results := [.lit (.bool true)], args := [d1, d2, d3, d4, d5] }
  | _ => none }
def coderSumsRow : OpenClaim := { program := "ytepgkimlmoikmaagreat", sum := "026228874c643336ad029e9f5aa9654aa63e9d2c54f47fe1b8def586501f7e1a", func := "lexiphane/lexiphanelaw24.CoderSums", spec := "coderSums", unfollowed := true, recurses := true, apart := false }
def CoderSumsSaid : Prop := coderSumsRow.holds Tryz.pinned (OpenSpec.ofChange coderSumsSpec)

/-- ITS FALSE NEIGHBOUR: 'it returns false'. Refute it at one input. -/
def coderSumsWrong : ChangeSpec := { name := "coderSums", fn := fun _ => fun
  | [d1, d2, d3, d4, d5] => { results := [.lit (.bool false)], args := [d1, d2, d3, d4, d5] }
  | _ => none }
def CoderSumsWrongFalsely : Prop := coderSumsRow.holds Tryz.pinned (OpenSpec.ofChange coderSumsWrong)

/-- 'lexiphanelaw24.CoderTail': WHATEVER THE INPUT: true; the input reads as it did. -/
def coderTailSpec : ChangeSpec := { name := "coderTail", fn := fun _ => fun
  | [d1, d2, d3, d4] => { results := [.lit (.bool true)], args := [d1, d2, d3, d4] }
  | _ => none }
def coderTailRow : OpenClaim := { program := "ytepgkimlmoikmaagreat", sum := "026228874c643336ad029e9f5aa9654aa63e9d2c54f47fe1b8def586501f7e1a", func := "lexiphane/lexiphanelaw24.CoderTail", spec := "coderTail", unfollowed := true, recurses := true, apart := false }
def CoderTailSaid : Prop := coderTailRow.holds Tryz.pinned (OpenSpec.ofChange coderTailSpec)

/-- ITS FALSE NEIGHBOUR: 'it returns false'. Refute it at one input. -/
def coderTailWrong : ChangeSpec := { name := "coderTail", fn := fun _ => fun
  | [d1, d2, d3, d4] => { results := [.lit (.bool false)], args := [d1, d2, d3, d4] }
  | _ => none }
def CoderTailWrongFalsely : Prop := coderTailRow.holds Tryz.pinned (OpenSpec.ofChange coderTailWrong)

/- THE SECOND FORM. 'bulk': how many values and letters a reading holds, each counted each time it is reached (what is shared counts as often as it is met; a slice's spare places count too). A statement '..UptoSaid' is the law's where the arguments, and the package variables that the reading takes, are together of bulk at most 1048576: NARROWER than '..Said'. Prove '..Said' where nothing that the law and all that it calls make is longer than what came in: it says more and counts as full. Else prove '..UptoSaid'. A law counts once. -/
mutual
def uptoBulk {H : Type} : DataW H → Nat
  | .lit (.string bytes) => bytes.length + 1
  | .lit _ => 1
  | .nil => 1
  | .ptr d => uptoBulk d + 1
  | .slice elems spare => uptoBulkAll elems + uptoBulkAll spare + 1
  | .agg parts => uptoBulkAll parts + 1
  | .iface _ d => uptoBulk d + 1
  | .map entries => uptoBulkEntries entries + 1
  | .held _ => 1
def uptoBulkAll {H : Type} : List (DataW H) → Nat
  | [] => 0
  | d :: r => uptoBulk d + uptoBulkAll r
def uptoBulkEntries {H : Type} : List (Lit × DataW H) → Nat
  | [] => 0
  | x :: r => uptoBulkEntry x + uptoBulkEntries r
def uptoBulkEntry {H : Type} : Lit × DataW H → Nat
  | (.string bytes, d) => bytes.length + uptoBulk d + 1
  | (_, d) => uptoBulk d + 1
 end
def uptoSmall : (H : Type) → List (DataW H) → Bool := fun _ ds => decide (uptoBulkAll ds ≤ 1048576)
def OpenSpec.upto (s : _root_.Go.ChangeSpec) : _root_.Go.OpenSpec := { _root_.Go.OpenSpec.ofChange s with cond := some uptoSmall }

/-- 'lexiphanelaw22.BlockTells', WHERE WHAT IT READS IS OF BULK AT MOST 1048576: true; the input reads as it did. -/
def blockTellsUptoRow : OpenClaim := { program := "ytepgkimlmoikmaagreat", sum := "026228874c643336ad029e9f5aa9654aa63e9d2c54f47fe1b8def586501f7e1a", func := "lexiphane/lexiphanelaw22.BlockTells", spec := "blockTells", unfollowed := true, recurses := true, apart := false, narrowed := true }
def BlockTellsUptoSaid : Prop := blockTellsUptoRow.holds Tryz.pinned (OpenSpec.upto blockTellsSpec)

/-- 'lexiphanelaw22.BlockLays', WHERE WHAT IT READS IS OF BULK AT MOST 1048576: true; the input reads as it did. -/
def blockLaysUptoRow : OpenClaim := { program := "ytepgkimlmoikmaagreat", sum := "026228874c643336ad029e9f5aa9654aa63e9d2c54f47fe1b8def586501f7e1a", func := "lexiphane/lexiphanelaw22.BlockLays", spec := "blockLays", unfollowed := true, recurses := true, apart := false, narrowed := true }
def BlockLaysUptoSaid : Prop := blockLaysUptoRow.holds Tryz.pinned (OpenSpec.upto blockLaysSpec)

/-- 'lexiphanelaw22.BlockTurned', WHERE WHAT IT READS IS OF BULK AT MOST 1048576: true; the input reads as it did. -/
def blockTurnedUptoRow : OpenClaim := { program := "ytepgkimlmoikmaagreat", sum := "026228874c643336ad029e9f5aa9654aa63e9d2c54f47fe1b8def586501f7e1a", func := "lexiphane/lexiphanelaw22.BlockTurned", spec := "blockTurned", unfollowed := true, recurses := true, apart := false, narrowed := true }
def BlockTurnedUptoSaid : Prop := blockTurnedUptoRow.holds Tryz.pinned (OpenSpec.upto blockTurnedSpec)

/-- 'lexiphanelaw24.CoderFlushes', WHERE WHAT IT READS IS OF BULK AT MOST 1048576: true; the input reads as it did. -/
def coderFlushesUptoRow : OpenClaim := { program := "ytepgkimlmoikmaagreat", sum := "026228874c643336ad029e9f5aa9654aa63e9d2c54f47fe1b8def586501f7e1a", func := "lexiphane/lexiphanelaw24.CoderFlushes", spec := "coderFlushes", unfollowed := true, recurses := true, apart := false, narrowed := true }
def CoderFlushesUptoSaid : Prop := coderFlushesUptoRow.holds Tryz.pinned (OpenSpec.upto coderFlushesSpec)

/-- 'lexiphanelaw24.CoderBlocks', WHERE WHAT IT READS IS OF BULK AT MOST 1048576: true; the input reads as it did. -/
def coderBlocksUptoRow : OpenClaim := { program := "ytepgkimlmoikmaagreat", sum := "026228874c643336ad029e9f5aa9654aa63e9d2c54f47fe1b8def586501f7e1a", func := "lexiphane/lexiphanelaw24.CoderBlocks", spec := "coderBlocks", unfollowed := true, recurses := true, apart := false, narrowed := true }
def CoderBlocksUptoSaid : Prop := coderBlocksUptoRow.holds Tryz.pinned (OpenSpec.upto coderBlocksSpec)

/-- 'lexiphanelaw24.CoderKinds', WHERE WHAT IT READS IS OF BULK AT MOST 1048576: true; the input reads as it did. -/
def coderKindsUptoRow : OpenClaim := { program := "ytepgkimlmoikmaagreat", sum := "026228874c643336ad029e9f5aa9654aa63e9d2c54f47fe1b8def586501f7e1a", func := "lexiphane/lexiphanelaw24.CoderKinds", spec := "coderKinds", unfollowed := true, recurses := true, apart := false, narrowed := true }
def CoderKindsUptoSaid : Prop := coderKindsUptoRow.holds Tryz.pinned (OpenSpec.upto coderKindsSpec)

/-- 'lexiphanelaw24.CoderPlays', WHERE WHAT IT READS IS OF BULK AT MOST 1048576: true; the input reads as it did. -/
def coderPlaysUptoRow : OpenClaim := { program := "ytepgkimlmoikmaagreat", sum := "026228874c643336ad029e9f5aa9654aa63e9d2c54f47fe1b8def586501f7e1a", func := "lexiphane/lexiphanelaw24.CoderPlays", spec := "coderPlays", unfollowed := true, recurses := true, apart := false, narrowed := true }
def CoderPlaysUptoSaid : Prop := coderPlaysUptoRow.holds Tryz.pinned (OpenSpec.upto coderPlaysSpec)

/-- 'lexiphanelaw24.CoderRefuses', WHERE WHAT IT READS IS OF BULK AT MOST 1048576: true; the input reads as it did. -/
def coderRefusesUptoRow : OpenClaim := { program := "ytepgkimlmoikmaagreat", sum := "026228874c643336ad029e9f5aa9654aa63e9d2c54f47fe1b8def586501f7e1a", func := "lexiphane/lexiphanelaw24.CoderRefuses", spec := "coderRefuses", unfollowed := true, recurses := true, apart := false, narrowed := true }
def CoderRefusesUptoSaid : Prop := coderRefusesUptoRow.holds Tryz.pinned (OpenSpec.upto coderRefusesSpec)

/-- 'lexiphanelaw24.CoderClosed', WHERE WHAT IT READS IS OF BULK AT MOST 1048576: true; the input reads as it did. -/
def coderClosedUptoRow : OpenClaim := { program := "ytepgkimlmoikmaagreat", sum := "026228874c643336ad029e9f5aa9654aa63e9d2c54f47fe1b8def586501f7e1a", func := "lexiphane/lexiphanelaw24.CoderClosed", spec := "coderClosed", unfollowed := true, recurses := true, apart := false, narrowed := true }
def CoderClosedUptoSaid : Prop := coderClosedUptoRow.holds Tryz.pinned (OpenSpec.upto coderClosedSpec)

/-- 'lexiphanelaw24.CoderWrites', WHERE WHAT IT READS IS OF BULK AT MOST 1048576: true; the input reads as it did. -/
def coderWritesUptoRow : OpenClaim := { program := "ytepgkimlmoikmaagreat", sum := "026228874c643336ad029e9f5aa9654aa63e9d2c54f47fe1b8def586501f7e1a", func := "lexiphane/lexiphanelaw24.CoderWrites", spec := "coderWrites", unfollowed := true, recurses := true, apart := false, narrowed := true }
def CoderWritesUptoSaid : Prop := coderWritesUptoRow.holds Tryz.pinned (OpenSpec.upto coderWritesSpec)

/-- 'lexiphanelaw24.CoderBytes', WHERE WHAT IT READS IS OF BULK AT MOST 1048576: true; the input reads as it did. -/
def coderBytesUptoRow : OpenClaim := { program := "ytepgkimlmoikmaagreat", sum := "026228874c643336ad029e9f5aa9654aa63e9d2c54f47fe1b8def586501f7e1a", func := "lexiphane/lexiphanelaw24.CoderBytes", spec := "coderBytes", unfollowed := true, recurses := true, apart := false, narrowed := true }
def CoderBytesUptoSaid : Prop := coderBytesUptoRow.holds Tryz.pinned (OpenSpec.upto coderBytesSpec)

/-- 'lexiphanelaw24.CoderHolds', WHERE WHAT IT READS IS OF BULK AT MOST 1048576: true; the input reads as it did. -/
def coderHoldsUptoRow : OpenClaim := { program := "ytepgkimlmoikmaagreat", sum := "026228874c643336ad029e9f5aa9654aa63e9d2c54f47fe1b8def586501f7e1a", func := "lexiphane/lexiphanelaw24.CoderHolds", spec := "coderHolds", unfollowed := true, recurses := true, apart := false, narrowed := true }
def CoderHoldsUptoSaid : Prop := coderHoldsUptoRow.holds Tryz.pinned (OpenSpec.upto coderHoldsSpec)

/-- 'lexiphanelaw24.CoderBack', WHERE WHAT IT READS IS OF BULK AT MOST 1048576: true; the input reads as it did. -/
def coderBackUptoRow : OpenClaim := { program := "ytepgkimlmoikmaagreat", sum := "026228874c643336ad029e9f5aa9654aa63e9d2c54f47fe1b8def586501f7e1a", func := "lexiphane/lexiphanelaw24.CoderBack", spec := "coderBack", unfollowed := true, recurses := true, apart := false, narrowed := true }
def CoderBackUptoSaid : Prop := coderBackUptoRow.holds Tryz.pinned (OpenSpec.upto coderBackSpec)

/-- 'lexiphanelaw24.CoderTotals', WHERE WHAT IT READS IS OF BULK AT MOST 1048576: true; the input reads as it did. -/
def coderTotalsUptoRow : OpenClaim := { program := "ytepgkimlmoikmaagreat", sum := "026228874c643336ad029e9f5aa9654aa63e9d2c54f47fe1b8def586501f7e1a", func := "lexiphane/lexiphanelaw24.CoderTotals", spec := "coderTotals", unfollowed := true, recurses := true, apart := false, narrowed := true }
def CoderTotalsUptoSaid : Prop := coderTotalsUptoRow.holds Tryz.pinned (OpenSpec.upto coderTotalsSpec)

/-- 'lexiphanelaw24.CoderSums', WHERE WHAT IT READS IS OF BULK AT MOST 1048576: true; the input reads as it did. -/
def coderSumsUptoRow : OpenClaim := { program := "ytepgkimlmoikmaagreat", sum := "026228874c643336ad029e9f5aa9654aa63e9d2c54f47fe1b8def586501f7e1a", func := "lexiphane/lexiphanelaw24.CoderSums", spec := "coderSums", unfollowed := true, recurses := true, apart := false, narrowed := true }
def CoderSumsUptoSaid : Prop := coderSumsUptoRow.holds Tryz.pinned (OpenSpec.upto coderSumsSpec)

/-- 'lexiphanelaw24.CoderTail', WHERE WHAT IT READS IS OF BULK AT MOST 1048576: true; the input reads as it did. -/
def coderTailUptoRow : OpenClaim := { program := "ytepgkimlmoikmaagreat", sum := "026228874c643336ad029e9f5aa9654aa63e9d2c54f47fe1b8def586501f7e1a", func := "lexiphane/lexiphanelaw24.CoderTail", spec := "coderTail", unfollowed := true, recurses := true, apart := false, narrowed := true }
def CoderTailUptoSaid : Prop := coderTailUptoRow.holds Tryz.pinned (OpenSpec.upto coderTailSpec)

end Rows
end Go.Proofs.YtepgkimlmoikmaaGreat
