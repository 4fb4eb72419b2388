/-
  No cell of these rows narrows 'for every input' (looked for: loops, veiled, ifaces, maps, wideKeys, modest, calm, conditions, laid).
  DERIVED. THE GIVEN ROWS OF THIS SEAT. 6 by the template 'for every input the law returns true; each argument reads behind the call as it read before'; 0 by the template 'total and deterministic' (their statements: YtoccpgnbdjinjaaTotals.lean).
  GIVEN WITH THE SEED: the statements are not yours to turn. If you find one false, say at which input.
  Laid BY PROGRAM, IN A SANDBOX (cutbox-rows.mjs): the forced cells as the released guide's own fill.sh prints them over the translation 10ac0fa080114ec9… (all of the seat's roots in one cut). By AI agents, Wed Nov 11 2026. No macro, syntax, notation, axiom, sorry.
-/
import Derived.Test.YtoccpgnbdjinjaaChecked
import GoSem.Claim
import GoSem.ClaimJoined
import GoSem.ClaimMapViews
import Derived.JoinedTies
import Derived.KernelRfl
namespace Go.Proofs.Ytoccpgnbdjinjaa
/- THE CELL 'sum', in the pinned program and in every row, IS THE sha256 OF THE DUMP (.gsa) THAT YtoccpgnbdjinjaaProg.lean LOADS. Nothing in Lean hashes anything: it is a label: what it is worth is what the hold of that sum in a sandbox is worth. -/
noncomputable def Try.pinned : Pinned := { name := "ytoccpgnbdjinjaa", sum := "10ac0fa080114ec974a2bd9b8f262895df3a367385fd4143047ba4cd7e06de46", checked := Try.checked }
namespace Rows
def none {H : Type} : Left H := { results := [], args := [] }

/-- 'lexiphanelaw20.TabTells': WHATEVER THE INPUT: true; the input reads as it did. -/
def tabTellsSpec : ChangeSpec := { name := "tabTells", fn := fun _ => fun
  | [d1, d2, d3] => { results := [.lit (.bool true)], args := [d1, d2, d3] }
  | _ => none }
def tabTellsRow : OpenClaim := { program := "ytoccpgnbdjinjaa", sum := "10ac0fa080114ec974a2bd9b8f262895df3a367385fd4143047ba4cd7e06de46", func := "lexiphane/lexiphanelaw20.TabTells", spec := "tabTells", apart := false }
def TabTellsSaid : Prop := tabTellsRow.holds Try.pinned (OpenSpec.ofChange tabTellsSpec)

/-- ITS FALSE NEIGHBOUR: 'it returns false'. Refute it at one input. -/
def tabTellsWrong : ChangeSpec := { name := "tabTells", fn := fun _ => fun
  | [d1, d2, d3] => { results := [.lit (.bool false)], args := [d1, d2, d3] }
  | _ => none }
def TabTellsWrongFalsely : Prop := tabTellsRow.holds Try.pinned (OpenSpec.ofChange tabTellsWrong)

/-- 'lexiphanelaw20.TabOnce': WHATEVER THE INPUT: true; the input reads as it did. -/
def tabOnceSpec : ChangeSpec := { name := "tabOnce", fn := fun _ => fun
  | [d1, d2, d3] => { results := [.lit (.bool true)], args := [d1, d2, d3] }
  | _ => none }
def tabOnceRow : OpenClaim := { program := "ytoccpgnbdjinjaa", sum := "10ac0fa080114ec974a2bd9b8f262895df3a367385fd4143047ba4cd7e06de46", func := "lexiphane/lexiphanelaw20.TabOnce", spec := "tabOnce", apart := false }
def TabOnceSaid : Prop := tabOnceRow.holds Try.pinned (OpenSpec.ofChange tabOnceSpec)

/-- ITS FALSE NEIGHBOUR: 'it returns false'. Refute it at one input. -/
def tabOnceWrong : ChangeSpec := { name := "tabOnce", fn := fun _ => fun
  | [d1, d2, d3] => { results := [.lit (.bool false)], args := [d1, d2, d3] }
  | _ => none }
def TabOnceWrongFalsely : Prop := tabOnceRow.holds Try.pinned (OpenSpec.ofChange tabOnceWrong)

/-- 'lexiphanelaw20.TabRuns': WHATEVER THE INPUT: true; the input reads as it did. -/
def tabRunsSpec : ChangeSpec := { name := "tabRuns", fn := fun _ => fun
  | [d1, d2] => { results := [.lit (.bool true)], args := [d1, d2] }
  | _ => none }
def tabRunsRow : OpenClaim := { program := "ytoccpgnbdjinjaa", sum := "10ac0fa080114ec974a2bd9b8f262895df3a367385fd4143047ba4cd7e06de46", func := "lexiphane/lexiphanelaw20.TabRuns", spec := "tabRuns", apart := false }
def TabRunsSaid : Prop := tabRunsRow.holds Try.pinned (OpenSpec.ofChange tabRunsSpec)

/-- ITS FALSE NEIGHBOUR: 'it returns false'. Refute it at one input. -/
def tabRunsWrong : ChangeSpec := { name := "tabRuns", fn := fun _ => fun
  | [d1, d2] => { results := [.lit (.bool false)], args := [d1, d2] }
  | _ => none }
def TabRunsWrongFalsely : Prop := tabRunsRow.holds Try.pinned (OpenSpec.ofChange tabRunsWrong)

/-- 'lexiphanelaw20.TabRefuses': WHATEVER THE INPUT: true; the input reads as it did. -/
def tabRefusesSpec : ChangeSpec := { name := "tabRefuses", fn := fun _ => fun
  | [d1, d2] => { results := [.lit (.bool true)], args := [d1, d2] }
  | _ => none }
def tabRefusesRow : OpenClaim := { program := "ytoccpgnbdjinjaa", sum := "10ac0fa080114ec974a2bd9b8f262895df3a367385fd4143047ba4cd7e06de46", func := "lexiphane/lexiphanelaw20.TabRefuses", spec := "tabRefuses", apart := false }
def TabRefusesSaid : Prop := tabRefusesRow.holds Try.pinned (OpenSpec.ofChange tabRefusesSpec)

/-- ITS FALSE NEIGHBOUR: 'it returns false'. Refute it at one input. -/
def tabRefusesWrong : ChangeSpec := { name := "tabRefuses", fn := fun _ => fun
  | [d1, d2] => { results := [.lit (.bool false)], args := [d1, d2] }
  | _ => none }
def TabRefusesWrongFalsely : Prop := tabRefusesRow.holds Try.pinned (OpenSpec.ofChange tabRefusesWrong)

/-- 'lexiphanelaw20.TabSizes': WHATEVER THE INPUT: true; the input reads as it did. -/
def tabSizesSpec : ChangeSpec := { name := "tabSizes", fn := fun _ => fun
  | [d1, d2] => { results := [.lit (.bool true)], args := [d1, d2] }
  | _ => none }
def tabSizesRow : OpenClaim := { program := "ytoccpgnbdjinjaa", sum := "10ac0fa080114ec974a2bd9b8f262895df3a367385fd4143047ba4cd7e06de46", func := "lexiphane/lexiphanelaw20.TabSizes", spec := "tabSizes", apart := false }
def TabSizesSaid : Prop := tabSizesRow.holds Try.pinned (OpenSpec.ofChange tabSizesSpec)

/-- ITS FALSE NEIGHBOUR: 'it returns false'. Refute it at one input. -/
def tabSizesWrong : ChangeSpec := { name := "tabSizes", fn := fun _ => fun
  | [d1, d2] => { results := [.lit (.bool false)], args := [d1, d2] }
  | _ => none }
def TabSizesWrongFalsely : Prop := tabSizesRow.holds Try.pinned (OpenSpec.ofChange tabSizesWrong)

/-- 'lexiphanelaw20.TabLong': WHATEVER THE INPUT: true; the input reads as it did. -/
def tabLongSpec : ChangeSpec := { name := "tabLong", fn := fun _ => fun
  | [d] => { results := [.lit (.bool true)], args := [d] }
  | _ => none }
def tabLongRow : OpenClaim := { program := "ytoccpgnbdjinjaa", sum := "10ac0fa080114ec974a2bd9b8f262895df3a367385fd4143047ba4cd7e06de46", func := "lexiphane/lexiphanelaw20.TabLong", spec := "tabLong", apart := false }
def TabLongSaid : Prop := tabLongRow.holds Try.pinned (OpenSpec.ofChange tabLongSpec)

/-- ITS FALSE NEIGHBOUR: 'it returns false'. Refute it at one input. -/
def tabLongWrong : ChangeSpec := { name := "tabLong", fn := fun _ => fun
  | [d] => { results := [.lit (.bool false)], args := [d] }
  | _ => none }
def TabLongWrongFalsely : Prop := tabLongRow.holds Try.pinned (OpenSpec.ofChange tabLongWrong)

/- THE SECOND FORM. 'bulk': how many values and letters a reading holds, each counted each time it is reached (what is shared counts as often as it is met; a slice's spare places count too). A statement '..UptoSaid' is the law's where the arguments, and the package variables that the reading takes, are together of bulk at most 1048576: NARROWER than '..Said'. Prove '..Said' where nothing that the law and all that it calls make is longer than what came in: it says more and counts as full. Else prove '..UptoSaid'. A law counts once. -/
mutual
def uptoBulk {H : Type} : DataW H → Nat
  | .lit (.string bytes) => bytes.length + 1
  | .lit _ => 1
  | .nil => 1
  | .ptr d => uptoBulk d + 1
  | .slice elems spare => uptoBulkAll elems + uptoBulkAll spare + 1
  | .agg parts => uptoBulkAll parts + 1
  | .iface _ d => uptoBulk d + 1
  | .map entries => uptoBulkEntries entries + 1
  | .held _ => 1
def uptoBulkAll {H : Type} : List (DataW H) → Nat
  | [] => 0
  | d :: r => uptoBulk d + uptoBulkAll r
def uptoBulkEntries {H : Type} : List (Lit × DataW H) → Nat
  | [] => 0
  | x :: r => uptoBulkEntry x + uptoBulkEntries r
def uptoBulkEntry {H : Type} : Lit × DataW H → Nat
  | (.string bytes, d) => bytes.length + uptoBulk d + 1
  | (_, d) => uptoBulk d + 1
 end
def uptoSmall : (H : Type) → List (DataW H) → Bool := fun _ ds => decide (uptoBulkAll ds ≤ 1048576)
def OpenSpec.upto (s : _root_.Go.ChangeSpec) : _root_.Go.OpenSpec := { _root_.Go.OpenSpec.ofChange s with cond := some uptoSmall }

/-- 'lexiphanelaw20.TabTells', WHERE WHAT IT READS IS OF BULK AT MOST 1048576: true; the input reads as it did. -/
def tabTellsUptoRow : OpenClaim := { program := "ytoccpgnbdjinjaa", sum := "10ac0fa080114ec974a2bd9b8f262895df3a367385fd4143047ba4cd7e06de46", func := "lexiphane/lexiphanelaw20.TabTells", spec := "tabTells", apart := false, narrowed := true }
def TabTellsUptoSaid : Prop := tabTellsUptoRow.holds Try.pinned (OpenSpec.upto tabTellsSpec)

/-- 'lexiphanelaw20.TabOnce', WHERE WHAT IT READS IS OF BULK AT MOST 1048576: true; the input reads as it did. -/
def tabOnceUptoRow : OpenClaim := { program := "ytoccpgnbdjinjaa", sum := "10ac0fa080114ec974a2bd9b8f262895df3a367385fd4143047ba4cd7e06de46", func := "lexiphane/lexiphanelaw20.TabOnce", spec := "tabOnce", apart := false, narrowed := true }
def TabOnceUptoSaid : Prop := tabOnceUptoRow.holds Try.pinned (OpenSpec.upto tabOnceSpec)

/-- 'lexiphanelaw20.TabRuns', WHERE WHAT IT READS IS OF BULK AT MOST 1048576: true; the input reads as it did. -/
def tabRunsUptoRow : OpenClaim := { program := "ytoccpgnbdjinjaa", sum := "10ac0fa080114ec974a2bd9b8f262895df3a367385fd4143047ba4cd7e06de46", func := "lexiphane/lexiphanelaw20.TabRuns", spec := "tabRuns", apart := false, narrowed := true }
def TabRunsUptoSaid : Prop := tabRunsUptoRow.holds Try.pinned (OpenSpec.upto tabRunsSpec)

/-- 'lexiphanelaw20.TabRefuses', WHERE WHAT IT READS IS OF BULK AT MOST 1048576: true; the input reads as it did. -/
def tabRefusesUptoRow : OpenClaim := { program := "ytoccpgnbdjinjaa", sum := "10ac0fa080114ec974a2bd9b8f262895df3a367385fd4143047ba4cd7e06de46", func := "lexiphane/lexiphanelaw20.TabRefuses", spec := "tabRefuses", apart := false, narrowed := true }
def TabRefusesUptoSaid : Prop := tabRefusesUptoRow.holds Try.pinned (OpenSpec.upto tabRefusesSpec)

/-- 'lexiphanelaw20.TabSizes', WHERE WHAT IT READS IS OF BULK AT MOST 1048576: true; the input reads as it did. -/
def tabSizesUptoRow : OpenClaim := { program := "ytoccpgnbdjinjaa", sum := "10ac0fa080114ec974a2bd9b8f262895df3a367385fd4143047ba4cd7e06de46", func := "lexiphane/lexiphanelaw20.TabSizes", spec := "tabSizes", apart := false, narrowed := true }
def TabSizesUptoSaid : Prop := tabSizesUptoRow.holds Try.pinned (OpenSpec.upto tabSizesSpec)

/-- 'lexiphanelaw20.TabLong', WHERE WHAT IT READS IS OF BULK AT MOST 1048576: true; the input reads as it did. -/
def tabLongUptoRow : OpenClaim := { program := "ytoccpgnbdjinjaa", sum := "10ac0fa080114ec974a2bd9b8f262895df3a367385fd4143047ba4cd7e06de46", func := "lexiphane/lexiphanelaw20.TabLong", spec := "tabLong", apart := false, narrowed := true }
def TabLongUptoSaid : Prop := tabLongUptoRow.holds Try.pinned (OpenSpec.upto tabLongSpec)

end Rows
end Go.Proofs.Ytoccpgnbdjinjaa
