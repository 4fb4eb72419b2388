/-
  No cell of these rows narrows 'for every input' (looked for: loops, veiled, ifaces, maps, wideKeys, modest, calm, conditions, laid).
  DERIVED. THE GIVEN ROWS OF THIS SEAT. 4 by the template 'for every input the law returns true; each argument reads behind the call as it read before'; 0 by the template 'total and deterministic' (their statements: YtepgkimlmoikmaaTotals.lean).
  GIVEN WITH THE SEED: the statements are not yours to turn. If you find one false, say at which input.
  Laid BY PROGRAM, IN A SANDBOX (cutbox-rows.mjs): the forced cells as the released guide's own fill.sh prints them over the translation 7165d245580849c4… (all of the seat's roots in one cut). By AI agents, Wed Nov 11 2026. No macro, syntax, notation, axiom, sorry.
-/
import Derived.Test.YtepgkimlmoikmaaChecked
import GoSem.Claim
import GoSem.ClaimJoined
import GoSem.ClaimMapViews
import Derived.JoinedTies
import Derived.KernelRfl
namespace Go.Proofs.Ytepgkimlmoikmaa
/- THE CELL 'sum', in the pinned program and in every row, IS THE sha256 OF THE DUMP (.gsa) THAT YtepgkimlmoikmaaProg.lean LOADS. Nothing in Lean hashes anything: it is a label: what it is worth is what the hold of that sum in a sandbox is worth. -/
noncomputable def Try.pinned : Pinned := { name := "ytepgkimlmoikmaa", sum := "7165d245580849c456e4d6096e91afc89077969d0f28eb0b8d707cd52a9ec527", checked := Try.checked }
namespace Rows
def none {H : Type} : Left H := { results := [], args := [] }

/-- 'lexiphanelaw22.BlockRight': WHATEVER THE INPUT: true; the input reads as it did. -/
def blockRightSpec : ChangeSpec := { name := "blockRight", fn := fun _ => fun
  | [d1, d2] => { results := [.lit (.bool true)], args := [d1, d2] }
  | _ => none }
def blockRightRow : OpenClaim := { program := "ytepgkimlmoikmaa", sum := "7165d245580849c456e4d6096e91afc89077969d0f28eb0b8d707cd52a9ec527", func := "lexiphane/lexiphanelaw22.BlockRight", spec := "blockRight", unfollowed := true, recurses := true, apart := false }
def BlockRightSaid : Prop := blockRightRow.holds Try.pinned (OpenSpec.ofChange blockRightSpec)

/-- ITS FALSE NEIGHBOUR: 'it returns false'. Refute it at one input. -/
def blockRightWrong : ChangeSpec := { name := "blockRight", fn := fun _ => fun
  | [d1, d2] => { results := [.lit (.bool false)], args := [d1, d2] }
  | _ => none }
def BlockRightWrongFalsely : Prop := blockRightRow.holds Try.pinned (OpenSpec.ofChange blockRightWrong)

/-- 'lexiphanelaw22.BlockLeast': WHATEVER THE INPUT: true; the input reads as it did. -/
def blockLeastSpec : ChangeSpec := { name := "blockLeast", fn := fun _ => fun
  | [d1, d2, d3] => { results := [.lit (.bool true)], args := [d1, d2, d3] }
  | _ => none }
def blockLeastRow : OpenClaim := { program := "ytepgkimlmoikmaa", sum := "7165d245580849c456e4d6096e91afc89077969d0f28eb0b8d707cd52a9ec527", func := "lexiphane/lexiphanelaw22.BlockLeast", spec := "blockLeast", unfollowed := true, recurses := true, apart := false }
def BlockLeastSaid : Prop := blockLeastRow.holds Try.pinned (OpenSpec.ofChange blockLeastSpec)

/-- ITS FALSE NEIGHBOUR: 'it returns false'. Refute it at one input. -/
def blockLeastWrong : ChangeSpec := { name := "blockLeast", fn := fun _ => fun
  | [d1, d2, d3] => { results := [.lit (.bool false)], args := [d1, d2, d3] }
  | _ => none }
def BlockLeastWrongFalsely : Prop := blockLeastRow.holds Try.pinned (OpenSpec.ofChange blockLeastWrong)

/-- 'lexiphanelaw22.BlockShort': WHATEVER THE INPUT: true; the input reads as it did. -/
def blockShortSpec : ChangeSpec := { name := "blockShort", fn := fun _ => fun
  | [d1, d2] => { results := [.lit (.bool true)], args := [d1, d2] }
  | _ => none }
def blockShortRow : OpenClaim := { program := "ytepgkimlmoikmaa", sum := "7165d245580849c456e4d6096e91afc89077969d0f28eb0b8d707cd52a9ec527", func := "lexiphane/lexiphanelaw22.BlockShort", spec := "blockShort", unfollowed := true, recurses := true, apart := false }
def BlockShortSaid : Prop := blockShortRow.holds Try.pinned (OpenSpec.ofChange blockShortSpec)

/-- ITS FALSE NEIGHBOUR: 'it returns false'. Refute it at one input. -/
def blockShortWrong : ChangeSpec := { name := "blockShort", fn := fun _ => fun
  | [d1, d2] => { results := [.lit (.bool false)], args := [d1, d2] }
  | _ => none }
def BlockShortWrongFalsely : Prop := blockShortRow.holds Try.pinned (OpenSpec.ofChange blockShortWrong)

/-- 'lexiphanelaw22.BlockWrong': WHATEVER THE INPUT: true; the input reads as it did. -/
def blockWrongSpec : ChangeSpec := { name := "blockWrong", fn := fun _ => fun
  | [d1, d2, d3, d4] => { results := [.lit (.bool true)], args := [d1, d2, d3, d4] }
  | _ => none }
def blockWrongRow : OpenClaim := { program := "ytepgkimlmoikmaa", sum := "7165d245580849c456e4d6096e91afc89077969d0f28eb0b8d707cd52a9ec527", func := "lexiphane/lexiphanelaw22.BlockWrong", spec := "blockWrong", unfollowed := true, recurses := true, apart := false }
def BlockWrongSaid : Prop := blockWrongRow.holds Try.pinned (OpenSpec.ofChange blockWrongSpec)

/-- ITS FALSE NEIGHBOUR: 'it returns false'. Refute it at one input. -/
def blockWrongWrong : ChangeSpec := { name := "blockWrong", fn := fun _ => fun
  | [d1, d2, d3, d4] => { results := [.lit (.bool false)], args := [d1, d2, d3, d4] }
  | _ => none }
def BlockWrongWrongFalsely : Prop := blockWrongRow.holds Try.pinned (OpenSpec.ofChange blockWrongWrong)

/- THE SECOND FORM. 'bulk': how many values and letters a reading holds, each counted each time it is reached (what is shared counts as often as it is met; a slice's spare places count too). A statement '..UptoSaid' is the law's where the arguments, and the package variables that the reading takes, are together of bulk at most 1048576: NARROWER than '..Said'. Prove '..Said' where nothing that the law and all that it calls make is longer than what came in: it says more and counts as full. Else prove '..UptoSaid'. A law counts once. -/
mutual
def uptoBulk {H : Type} : DataW H → Nat
  | .lit (.string bytes) => bytes.length + 1
  | .lit _ => 1
  | .nil => 1
  | .ptr d => uptoBulk d + 1
  | .slice elems spare => uptoBulkAll elems + uptoBulkAll spare + 1
  | .agg parts => uptoBulkAll parts + 1
  | .iface _ d => uptoBulk d + 1
  | .map entries => uptoBulkEntries entries + 1
  | .held _ => 1
def uptoBulkAll {H : Type} : List (DataW H) → Nat
  | [] => 0
  | d :: r => uptoBulk d + uptoBulkAll r
def uptoBulkEntries {H : Type} : List (Lit × DataW H) → Nat
  | [] => 0
  | x :: r => uptoBulkEntry x + uptoBulkEntries r
def uptoBulkEntry {H : Type} : Lit × DataW H → Nat
  | (.string bytes, d) => bytes.length + uptoBulk d + 1
  | (_, d) => uptoBulk d + 1
 end
def uptoSmall : (H : Type) → List (DataW H) → Bool := fun _ ds => decide (uptoBulkAll ds ≤ 1048576)
def OpenSpec.upto (s : _root_.Go.ChangeSpec) : _root_.Go.OpenSpec := { _root_.Go.OpenSpec.ofChange s with cond := some uptoSmall }

/-- 'lexiphanelaw22.BlockRight', WHERE WHAT IT READS IS OF BULK AT MOST 1048576: true; the input reads as it did. -/
def blockRightUptoRow : OpenClaim := { program := "ytepgkimlmoikmaa", sum := "7165d245580849c456e4d6096e91afc89077969d0f28eb0b8d707cd52a9ec527", func := "lexiphane/lexiphanelaw22.BlockRight", spec := "blockRight", unfollowed := true, recurses := true, apart := false, narrowed := true }
def BlockRightUptoSaid : Prop := blockRightUptoRow.holds Try.pinned (OpenSpec.upto blockRightSpec)

/-- 'lexiphanelaw22.BlockLeast', WHERE WHAT IT READS IS OF BULK AT MOST 1048576: true; the input reads as it did. -/
def blockLeastUptoRow : OpenClaim := { program := "ytepgkimlmoikmaa", sum := "7165d245580849c456e4d6096e91afc89077969d0f28eb0b8d707cd52a9ec527", func := "lexiphane/lexiphanelaw22.BlockLeast", spec := "blockLeast", unfollowed := true, recurses := true, apart := false, narrowed := true }
def BlockLeastUptoSaid : Prop := blockLeastUptoRow.holds Try.pinned (OpenSpec.upto blockLeastSpec)

/-- 'lexiphanelaw22.BlockShort', WHERE WHAT IT READS IS OF BULK AT MOST 1048576: true; the input reads as it did. -/
def blockShortUptoRow : OpenClaim := { program := "ytepgkimlmoikmaa", sum := "7165d245580849c456e4d6096e91afc89077969d0f28eb0b8d707cd52a9ec527", func := "lexiphane/lexiphanelaw22.BlockShort", spec := "blockShort", unfollowed := true, recurses := true, apart := false, narrowed := true }
def BlockShortUptoSaid : Prop := blockShortUptoRow.holds Try.pinned (OpenSpec.upto blockShortSpec)

/-- 'lexiphanelaw22.BlockWrong', WHERE WHAT IT READS IS OF BULK AT MOST 1048576: true; the input reads as it did. -/
def blockWrongUptoRow : OpenClaim := { program := "ytepgkimlmoikmaa", sum := "7165d245580849c456e4d6096e91afc89077969d0f28eb0b8d707cd52a9ec527", func := "lexiphane/lexiphanelaw22.BlockWrong", spec := "blockWrong", unfollowed := true, recurses := true, apart := false, narrowed := true }
def BlockWrongUptoSaid : Prop := blockWrongUptoRow.holds Try.pinned (OpenSpec.upto blockWrongSpec)

end Rows
end Go.Proofs.Ytepgkimlmoikmaa
