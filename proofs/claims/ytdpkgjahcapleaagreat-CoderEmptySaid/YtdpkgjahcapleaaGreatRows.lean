/-
  No cell of these rows narrows 'for every input' (looked for: loops, veiled, ifaces, maps, wideKeys, modest, calm, conditions, laid).
  DERIVED. THE GIVEN ROWS OF THIS SEAT. 7 by the template 'for every input the law returns true; each argument reads behind the call as it read before'; 0 by the template 'total and deterministic' (their statements: YtdpkgjahcapleaaGreatTotals.lean).
  GIVEN WITH THE SEED: the statements are not yours to turn. If you find one false, say at which input.
  Laid BY PROGRAM, IN A SANDBOX (cutbox-rows.mjs): the forced cells as the released guide's own fill.sh prints them over the translation 2ecc2306298bcc11… (all of the seat's roots in one cut). By AI agents, Wed Nov 11 2026. No macro, syntax, notation, axiom, sorry.
-/
import Derived.Test.YtdpkgjahcapleaaGreatChecked
import GoSem.Claim
import GoSem.ClaimJoined
import GoSem.ClaimMapViews
import Derived.JoinedTies
import Derived.KernelRfl
namespace Go.Proofs.YtdpkgjahcapleaaGreat
/- THE CELL 'sum', in the pinned program and in every row, IS THE sha256 OF THE DUMP (.gsa) THAT YtdpkgjahcapleaaGreatProg.lean LOADS. Nothing in Lean hashes anything: it is a label: what it is worth is what the hold of that sum in a sandbox is worth. -/
noncomputable def Tryz.pinned : Pinned := { name := "ytdpkgjahcapleaagreat", sum := "2ecc2306298bcc1164e82e42aa39ad034b5d5c505802165680a9f8ed0c9833ad", checked := Tryz.checked }
namespace Rows
def none {H : Type} : Left H := { results := [], args := [] }

/-- 'lexiphanelaw24.CoderHead': WHATEVER THE INPUT: true; the input reads as it did. -/
def coderHeadSpec : ChangeSpec := { name := "coderHead", fn := fun _ => fun
  | [d1, d2, d3] => { results := [.lit (.bool true)], args := [d1, d2, d3] }
  | _ => none }
def coderHeadRow : OpenClaim := { program := "ytdpkgjahcapleaagreat", sum := "2ecc2306298bcc1164e82e42aa39ad034b5d5c505802165680a9f8ed0c9833ad", func := "lexiphane/lexiphanelaw24.CoderHead", spec := "coderHead", unfollowed := true, recurses := true, apart := false }
def CoderHeadSaid : Prop := coderHeadRow.holds Tryz.pinned (OpenSpec.ofChange coderHeadSpec)

/-- ITS FALSE NEIGHBOUR: 'it returns false'. Refute it at one input. -/
def coderHeadWrong : ChangeSpec := { name := "coderHead", fn := fun _ => fun
  | [d1, d2, d3] => { results := [.lit (.bool false)], args := [d1, d2, d3] }
  | _ => none }
def CoderHeadWrongFalsely : Prop := coderHeadRow.holds Tryz.pinned (OpenSpec.ofChange coderHeadWrong)

/-- 'lexiphanelaw24.CoderFinishes': WHATEVER THE INPUT: true; the input reads as it did. -/
def coderFinishesSpec : ChangeSpec := { name := "coderFinishes", fn := fun _ => fun
  | [d1, d2, d3] => { results := [.lit (.bool true)], args := [d1, d2, d3] }
  | _ => none }
def coderFinishesRow : OpenClaim := { program := "ytdpkgjahcapleaagreat", sum := "2ecc2306298bcc1164e82e42aa39ad034b5d5c505802165680a9f8ed0c9833ad", func := "lexiphane/lexiphanelaw24.CoderFinishes", spec := "coderFinishes", unfollowed := true, recurses := true, apart := false }
def CoderFinishesSaid : Prop := coderFinishesRow.holds Tryz.pinned (OpenSpec.ofChange coderFinishesSpec)

/-- ITS FALSE NEIGHBOUR: 'it returns false'. Refute it at one input. -/
def coderFinishesWrong : ChangeSpec := { name := "coderFinishes", fn := fun _ => fun
  | [d1, d2, d3] => { results := [.lit (.bool false)], args := [d1, d2, d3] }
  | _ => none }
def CoderFinishesWrongFalsely : Prop := coderFinishesRow.holds Tryz.pinned (OpenSpec.ofChange coderFinishesWrong)

/-- 'lexiphanelaw24.CoderWrong': WHATEVER THE INPUT: true; the input reads as it did. -/
def coderWrongSpec : ChangeSpec := { name := "coderWrong", fn := fun _ => fun
  | [d1, d2, d3, d4] => { results := [.lit (.bool true)], args := [d1, d2, d3, d4] }
  | _ => none }
def coderWrongRow : OpenClaim := { program := "ytdpkgjahcapleaagreat", sum := "2ecc2306298bcc1164e82e42aa39ad034b5d5c505802165680a9f8ed0c9833ad", func := "lexiphane/lexiphanelaw24.CoderWrong", spec := "coderWrong", unfollowed := true, recurses := true, apart := false }
def CoderWrongSaid : Prop := coderWrongRow.holds Tryz.pinned (OpenSpec.ofChange coderWrongSpec)

/-- ITS FALSE NEIGHBOUR: 'it returns false'. Refute it at one input. -/
def coderWrongWrong : ChangeSpec := { name := "coderWrong", fn := fun _ => fun
  | [d1, d2, d3, d4] => { results := [.lit (.bool false)], args := [d1, d2, d3, d4] }
  | _ => none }
def CoderWrongWrongFalsely : Prop := coderWrongRow.holds Tryz.pinned (OpenSpec.ofChange coderWrongWrong)

/-- 'lexiphanelaw24.CoderNone': WHATEVER THE INPUT: true; the input reads as it did. -/
def coderNoneSpec : ChangeSpec := { name := "coderNone", fn := fun _ => fun
  | [d] => { results := [.lit (.bool true)], args := [d] }
  | _ => none }
def coderNoneRow : OpenClaim := { program := "ytdpkgjahcapleaagreat", sum := "2ecc2306298bcc1164e82e42aa39ad034b5d5c505802165680a9f8ed0c9833ad", func := "lexiphane/lexiphanelaw24.CoderNone", spec := "coderNone", unfollowed := true, recurses := true, apart := false }
def CoderNoneSaid : Prop := coderNoneRow.holds Tryz.pinned (OpenSpec.ofChange coderNoneSpec)

/-- ITS FALSE NEIGHBOUR: 'it returns false'. Refute it at one input. -/
def coderNoneWrong : ChangeSpec := { name := "coderNone", fn := fun _ => fun
  | [d] => { results := [.lit (.bool false)], args := [d] }
  | _ => none }
def CoderNoneWrongFalsely : Prop := coderNoneRow.holds Tryz.pinned (OpenSpec.ofChange coderNoneWrong)

/-- 'lexiphanelaw24.CoderReads': WHATEVER THE INPUT: true; the input reads as it did. -/
def coderReadsSpec : ChangeSpec := { name := "coderReads", fn := fun _ => fun
  | [d1, d2, d3] => { results := [.lit (.bool true)], args := [d1, d2, d3] }
  | _ => none }
def coderReadsRow : OpenClaim := { program := "ytdpkgjahcapleaagreat", sum := "2ecc2306298bcc1164e82e42aa39ad034b5d5c505802165680a9f8ed0c9833ad", func := "lexiphane/lexiphanelaw24.CoderReads", spec := "coderReads", unfollowed := true, recurses := true, apart := false }
def CoderReadsSaid : Prop := coderReadsRow.holds Tryz.pinned (OpenSpec.ofChange coderReadsSpec)

/-- ITS FALSE NEIGHBOUR: 'it returns false'. Refute it at one input. -/
def coderReadsWrong : ChangeSpec := { name := "coderReads", fn := fun _ => fun
  | [d1, d2, d3] => { results := [.lit (.bool false)], args := [d1, d2, d3] }
  | _ => none }
def CoderReadsWrongFalsely : Prop := coderReadsRow.holds Tryz.pinned (OpenSpec.ofChange coderReadsWrong)

/-- 'lexiphanelaw24.CoderStops': WHATEVER THE INPUT: true; the input reads as it did. -/
def coderStopsSpec : ChangeSpec := { name := "coderStops", fn := fun _ => fun
  | [d1, d2, d3, d4] => { results := [.lit (.bool true)], args := [d1, d2, d3, d4] }
  | _ => none }
def coderStopsRow : OpenClaim := { program := "ytdpkgjahcapleaagreat", sum := "2ecc2306298bcc1164e82e42aa39ad034b5d5c505802165680a9f8ed0c9833ad", func := "lexiphane/lexiphanelaw24.CoderStops", spec := "coderStops", unfollowed := true, recurses := true, apart := false }
def CoderStopsSaid : Prop := coderStopsRow.holds Tryz.pinned (OpenSpec.ofChange coderStopsSpec)

/-- ITS FALSE NEIGHBOUR: 'it returns false'. Refute it at one input. -/
def coderStopsWrong : ChangeSpec := { name := "coderStops", fn := fun _ => fun
  | [d1, d2, d3, d4] => { results := [.lit (.bool false)], args := [d1, d2, d3, d4] }
  | _ => none }
def CoderStopsWrongFalsely : Prop := coderStopsRow.holds Tryz.pinned (OpenSpec.ofChange coderStopsWrong)

/-- 'lexiphanelaw24.CoderEmpty': WHATEVER THE INPUT: true; the input reads as it did. -/
def coderEmptySpec : ChangeSpec := { name := "coderEmpty", fn := fun _ => fun
  | [d1, d2, d3] => { results := [.lit (.bool true)], args := [d1, d2, d3] }
  | _ => none }
def coderEmptyRow : OpenClaim := { program := "ytdpkgjahcapleaagreat", sum := "2ecc2306298bcc1164e82e42aa39ad034b5d5c505802165680a9f8ed0c9833ad", func := "lexiphane/lexiphanelaw24.CoderEmpty", spec := "coderEmpty", unfollowed := true, recurses := true, apart := false }
def CoderEmptySaid : Prop := coderEmptyRow.holds Tryz.pinned (OpenSpec.ofChange coderEmptySpec)

/-- ITS FALSE NEIGHBOUR: 'it returns false'. Refute it at one input. -/
def coderEmptyWrong : ChangeSpec := { name := "coderEmpty", fn := fun _ => fun
  | [d1, d2, d3] => { results := [.lit (.bool false)], args := [d1, d2, d3] }
  | _ => none }
def CoderEmptyWrongFalsely : Prop := coderEmptyRow.holds Tryz.pinned (OpenSpec.ofChange coderEmptyWrong)

/- THE SECOND FORM. 'bulk': how many values and letters a reading holds, each counted each time it is reached (what is shared counts as often as it is met; a slice's spare places count too). A statement '..UptoSaid' is the law's where the arguments, and the package variables that the reading takes, are together of bulk at most 1048576: NARROWER than '..Said'. Prove '..Said' where nothing that the law and all that it calls make is longer than what came in: it says more and counts as full. Else prove '..UptoSaid'. A law counts once. -/
mutual
def uptoBulk {H : Type} : DataW H → Nat
  | .lit (.string bytes) => bytes.length + 1
  | .lit _ => 1
  | .nil => 1
  | .ptr d => uptoBulk d + 1
  | .slice elems spare => uptoBulkAll elems + uptoBulkAll spare + 1
  | .agg parts => uptoBulkAll parts + 1
  | .iface _ d => uptoBulk d + 1
  | .map entries => uptoBulkEntries entries + 1
  | .held _ => 1
def uptoBulkAll {H : Type} : List (DataW H) → Nat
  | [] => 0
  | d :: r => uptoBulk d + uptoBulkAll r
def uptoBulkEntries {H : Type} : List (Lit × DataW H) → Nat
  | [] => 0
  | x :: r => uptoBulkEntry x + uptoBulkEntries r
def uptoBulkEntry {H : Type} : Lit × DataW H → Nat
  | (.string bytes, d) => bytes.length + uptoBulk d + 1
  | (_, d) => uptoBulk d + 1
 end
def uptoSmall : (H : Type) → List (DataW H) → Bool := fun _ ds => decide (uptoBulkAll ds ≤ 1048576)
def OpenSpec.upto (s : _root_.Go.ChangeSpec) : _root_.Go.OpenSpec := { _root_.Go.OpenSpec.ofChange s with cond := some uptoSmall }

/-- 'lexiphanelaw24.CoderHead', WHERE WHAT IT READS IS OF BULK AT MOST 1048576: true; the input reads as it did. -/
def coderHeadUptoRow : OpenClaim := { program := "ytdpkgjahcapleaagreat", sum := "2ecc2306298bcc1164e82e42aa39ad034b5d5c505802165680a9f8ed0c9833ad", func := "lexiphane/lexiphanelaw24.CoderHead", spec := "coderHead", unfollowed := true, recurses := true, apart := false, narrowed := true }
def CoderHeadUptoSaid : Prop := coderHeadUptoRow.holds Tryz.pinned (OpenSpec.upto coderHeadSpec)

/-- 'lexiphanelaw24.CoderFinishes', WHERE WHAT IT READS IS OF BULK AT MOST 1048576: true; the input reads as it did. -/
def coderFinishesUptoRow : OpenClaim := { program := "ytdpkgjahcapleaagreat", sum := "2ecc2306298bcc1164e82e42aa39ad034b5d5c505802165680a9f8ed0c9833ad", func := "lexiphane/lexiphanelaw24.CoderFinishes", spec := "coderFinishes", unfollowed := true, recurses := true, apart := false, narrowed := true }
def CoderFinishesUptoSaid : Prop := coderFinishesUptoRow.holds Tryz.pinned (OpenSpec.upto coderFinishesSpec)

/-- 'lexiphanelaw24.CoderWrong', WHERE WHAT IT READS IS OF BULK AT MOST 1048576: true; the input reads as it did. -/
def coderWrongUptoRow : OpenClaim := { program := "ytdpkgjahcapleaagreat", sum := "2ecc2306298bcc1164e82e42aa39ad034b5d5c505802165680a9f8ed0c9833ad", func := "lexiphane/lexiphanelaw24.CoderWrong", spec := "coderWrong", unfollowed := true, recurses := true, apart := false, narrowed := true }
def CoderWrongUptoSaid : Prop := coderWrongUptoRow.holds Tryz.pinned (OpenSpec.upto coderWrongSpec)

/-- 'lexiphanelaw24.CoderNone', WHERE WHAT IT READS IS OF BULK AT MOST 1048576: true; the input reads as it did. -/
def coderNoneUptoRow : OpenClaim := { program := "ytdpkgjahcapleaagreat", sum := "2ecc2306298bcc1164e82e42aa39ad034b5d5c505802165680a9f8ed0c9833ad", func := "lexiphane/lexiphanelaw24.CoderNone", spec := "coderNone", unfollowed := true, recurses := true, apart := false, narrowed := true }
def CoderNoneUptoSaid : Prop := coderNoneUptoRow.holds Tryz.pinned (OpenSpec.upto coderNoneSpec)

/-- 'lexiphanelaw24.CoderReads', WHERE WHAT IT READS IS OF BULK AT MOST 1048576: true; the input reads as it did. -/
def coderReadsUptoRow : OpenClaim := { program := "ytdpkgjahcapleaagreat", sum := "2ecc2306298bcc1164e82e42aa39ad034b5d5c505802165680a9f8ed0c9833ad", func := "lexiphane/lexiphanelaw24.CoderReads", spec := "coderReads", unfollowed := true, recurses := true, apart := false, narrowed := true }
def CoderReadsUptoSaid : Prop := coderReadsUptoRow.holds Tryz.pinned (OpenSpec.upto coderReadsSpec)

/-- 'lexiphanelaw24.CoderStops', WHERE WHAT IT READS IS OF BULK AT MOST 1048576: true; the input reads as it did. -/
def coderStopsUptoRow : OpenClaim := { program := "ytdpkgjahcapleaagreat", sum := "2ecc2306298bcc1164e82e42aa39ad034b5d5c505802165680a9f8ed0c9833ad", func := "lexiphane/lexiphanelaw24.CoderStops", spec := "coderStops", unfollowed := true, recurses := true, apart := false, narrowed := true }
def CoderStopsUptoSaid : Prop := coderStopsUptoRow.holds Tryz.pinned (OpenSpec.upto coderStopsSpec)

/-- 'lexiphanelaw24.CoderEmpty', WHERE WHAT IT READS IS OF BULK AT MOST 1048576: true; the input reads as it did. -/
def coderEmptyUptoRow : OpenClaim := { program := "ytdpkgjahcapleaagreat", sum := "2ecc2306298bcc1164e82e42aa39ad034b5d5c505802165680a9f8ed0c9833ad", func := "lexiphane/lexiphanelaw24.CoderEmpty", spec := "coderEmpty", unfollowed := true, recurses := true, apart := false, narrowed := true }
def CoderEmptyUptoSaid : Prop := coderEmptyUptoRow.holds Tryz.pinned (OpenSpec.upto coderEmptySpec)

end Rows
end Go.Proofs.YtdpkgjahcapleaaGreat
