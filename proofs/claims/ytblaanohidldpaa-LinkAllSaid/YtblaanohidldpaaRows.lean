/-
  No cell of these rows narrows 'for every input' (looked for: loops, veiled, ifaces, maps, wideKeys, modest, calm, conditions, laid).
  DERIVED. THE GIVEN ROWS OF THIS SEAT. 6 by the template 'for every input the law returns true; each argument reads behind the call as it read before'; 0 by the template 'total and deterministic' (their statements: YtblaanohidldpaaTotals.lean).
  GIVEN WITH THE SEED: the statements are not yours to turn. If you find one false, say at which input.
  Laid BY PROGRAM, IN A SANDBOX (cutbox-rows.mjs): the forced cells as the released guide's own fill.sh prints them over the translation 8de08fb29aa16d27… (all of the seat's roots in one cut). By AI agents, Wed Nov 11 2026. No macro, syntax, notation, axiom, sorry.
-/
import Derived.Test.YtblaanohidldpaaChecked
import GoSem.Claim
import GoSem.ClaimJoined
import GoSem.ClaimMapViews
import Derived.JoinedTies
import Derived.KernelRfl
namespace Go.Proofs.Ytblaanohidldpaa
/- THE CELL 'sum', in the pinned program and in every row, IS THE sha256 OF THE DUMP (.gsa) THAT YtblaanohidldpaaProg.lean LOADS. Nothing in Lean hashes anything: it is a label: what it is worth is what the hold of that sum in a sandbox is worth. -/
noncomputable def Try.pinned : Pinned := { name := "ytblaanohidldpaa", sum := "8de08fb29aa16d2772e474b129695cb5e394c1f6ccebd161b09430b5e7c800b2", checked := Try.checked }
namespace Rows
def none {H : Type} : Left H := { results := [], args := [] }

/-- 'narthexlaw09.LinkWaits': WHATEVER THE INPUT: true; the input reads as it did. -/
def linkWaitsSpec : ChangeSpec := { name := "linkWaits", fn := fun _ => fun
  | [d1, d2, d3, d4, d5, d6] => { results := [.lit (.bool true)], args := [d1, d2, d3, d4, d5, d6] }
  | _ => none }
def linkWaitsRow : OpenClaim := { program := "ytblaanohidldpaa", sum := "8de08fb29aa16d2772e474b129695cb5e394c1f6ccebd161b09430b5e7c800b2", func := "narthex/narthexlaw09.LinkWaits", spec := "linkWaits", unfollowed := true, recurses := true, apart := false }
def LinkWaitsSaid : Prop := linkWaitsRow.holds Try.pinned (OpenSpec.ofChange linkWaitsSpec)

/-- ITS FALSE NEIGHBOUR: 'it returns false'. Refute it at one input. -/
def linkWaitsWrong : ChangeSpec := { name := "linkWaits", fn := fun _ => fun
  | [d1, d2, d3, d4, d5, d6] => { results := [.lit (.bool false)], args := [d1, d2, d3, d4, d5, d6] }
  | _ => none }
def LinkWaitsWrongFalsely : Prop := linkWaitsRow.holds Try.pinned (OpenSpec.ofChange linkWaitsWrong)

/-- 'narthexlaw09.LinkDoes': WHATEVER THE INPUT: true; the input reads as it did. -/
def linkDoesSpec : ChangeSpec := { name := "linkDoes", fn := fun _ => fun
  | [d1, d2, d3, d4, d5, d6] => { results := [.lit (.bool true)], args := [d1, d2, d3, d4, d5, d6] }
  | _ => none }
def linkDoesRow : OpenClaim := { program := "ytblaanohidldpaa", sum := "8de08fb29aa16d2772e474b129695cb5e394c1f6ccebd161b09430b5e7c800b2", func := "narthex/narthexlaw09.LinkDoes", spec := "linkDoes", unfollowed := true, recurses := true, apart := false }
def LinkDoesSaid : Prop := linkDoesRow.holds Try.pinned (OpenSpec.ofChange linkDoesSpec)

/-- ITS FALSE NEIGHBOUR: 'it returns false'. Refute it at one input. -/
def linkDoesWrong : ChangeSpec := { name := "linkDoes", fn := fun _ => fun
  | [d1, d2, d3, d4, d5, d6] => { results := [.lit (.bool false)], args := [d1, d2, d3, d4, d5, d6] }
  | _ => none }
def LinkDoesWrongFalsely : Prop := linkDoesRow.holds Try.pinned (OpenSpec.ofChange linkDoesWrong)

/-- 'narthexlaw09.LinkOnce': WHATEVER THE INPUT: true; the input reads as it did. -/
def linkOnceSpec : ChangeSpec := { name := "linkOnce", fn := fun _ => fun
  | [d1, d2, d3, d4, d5] => { results := [.lit (.bool true)], args := [d1, d2, d3, d4, d5] }
  | _ => none }
def linkOnceRow : OpenClaim := { program := "ytblaanohidldpaa", sum := "8de08fb29aa16d2772e474b129695cb5e394c1f6ccebd161b09430b5e7c800b2", func := "narthex/narthexlaw09.LinkOnce", spec := "linkOnce", unfollowed := true, recurses := true, apart := false }
def LinkOnceSaid : Prop := linkOnceRow.holds Try.pinned (OpenSpec.ofChange linkOnceSpec)

/-- ITS FALSE NEIGHBOUR: 'it returns false'. Refute it at one input. -/
def linkOnceWrong : ChangeSpec := { name := "linkOnce", fn := fun _ => fun
  | [d1, d2, d3, d4, d5] => { results := [.lit (.bool false)], args := [d1, d2, d3, d4, d5] }
  | _ => none }
def LinkOnceWrongFalsely : Prop := linkOnceRow.holds Try.pinned (OpenSpec.ofChange linkOnceWrong)

/-- 'narthexlaw09.LinkAll': WHATEVER THE INPUT: true; the input reads as it did. -/
def linkAllSpec : ChangeSpec := { name := "linkAll", fn := fun _ => fun
  | [d1, d2, d3, d4, d5] => { results := [.lit (.bool true)], args := [d1, d2, d3, d4, d5] }
  | _ => none }
def linkAllRow : OpenClaim := { program := "ytblaanohidldpaa", sum := "8de08fb29aa16d2772e474b129695cb5e394c1f6ccebd161b09430b5e7c800b2", func := "narthex/narthexlaw09.LinkAll", spec := "linkAll", unfollowed := true, recurses := true, apart := false }
def LinkAllSaid : Prop := linkAllRow.holds Try.pinned (OpenSpec.ofChange linkAllSpec)

/-- ITS FALSE NEIGHBOUR: 'it returns false'. Refute it at one input. -/
def linkAllWrong : ChangeSpec := { name := "linkAll", fn := fun _ => fun
  | [d1, d2, d3, d4, d5] => { results := [.lit (.bool false)], args := [d1, d2, d3, d4, d5] }
  | _ => none }
def LinkAllWrongFalsely : Prop := linkAllRow.holds Try.pinned (OpenSpec.ofChange linkAllWrong)

/-- 'narthexlaw09.LinkEpochs': WHATEVER THE INPUT: true; the input reads as it did. -/
def linkEpochsSpec : ChangeSpec := { name := "linkEpochs", fn := fun _ => fun
  | [d1, d2, d3, d4, d5, d6, d7] => { results := [.lit (.bool true)], args := [d1, d2, d3, d4, d5, d6, d7] }
  | _ => none }
def linkEpochsRow : OpenClaim := { program := "ytblaanohidldpaa", sum := "8de08fb29aa16d2772e474b129695cb5e394c1f6ccebd161b09430b5e7c800b2", func := "narthex/narthexlaw09.LinkEpochs", spec := "linkEpochs", unfollowed := true, recurses := true, apart := false }
def LinkEpochsSaid : Prop := linkEpochsRow.holds Try.pinned (OpenSpec.ofChange linkEpochsSpec)

/-- ITS FALSE NEIGHBOUR: 'it returns false'. Refute it at one input. -/
def linkEpochsWrong : ChangeSpec := { name := "linkEpochs", fn := fun _ => fun
  | [d1, d2, d3, d4, d5, d6, d7] => { results := [.lit (.bool false)], args := [d1, d2, d3, d4, d5, d6, d7] }
  | _ => none }
def LinkEpochsWrongFalsely : Prop := linkEpochsRow.holds Try.pinned (OpenSpec.ofChange linkEpochsWrong)

/-- 'narthexlaw09.LinkWindow': WHATEVER THE INPUT: true; the input reads as it did. -/
def linkWindowSpec : ChangeSpec := { name := "linkWindow", fn := fun _ => fun
  | [d1, d2, d3, d4, d5, d6] => { results := [.lit (.bool true)], args := [d1, d2, d3, d4, d5, d6] }
  | _ => none }
def linkWindowRow : OpenClaim := { program := "ytblaanohidldpaa", sum := "8de08fb29aa16d2772e474b129695cb5e394c1f6ccebd161b09430b5e7c800b2", func := "narthex/narthexlaw09.LinkWindow", spec := "linkWindow", unfollowed := true, recurses := true, apart := false }
def LinkWindowSaid : Prop := linkWindowRow.holds Try.pinned (OpenSpec.ofChange linkWindowSpec)

/-- ITS FALSE NEIGHBOUR: 'it returns false'. Refute it at one input. -/
def linkWindowWrong : ChangeSpec := { name := "linkWindow", fn := fun _ => fun
  | [d1, d2, d3, d4, d5, d6] => { results := [.lit (.bool false)], args := [d1, d2, d3, d4, d5, d6] }
  | _ => none }
def LinkWindowWrongFalsely : Prop := linkWindowRow.holds Try.pinned (OpenSpec.ofChange linkWindowWrong)

/- THE SECOND FORM. 'bulk': how many values and letters a reading holds, each counted each time it is reached (what is shared counts as often as it is met; a slice's spare places count too). A statement '..UptoSaid' is the law's where the arguments, and the package variables that the reading takes, are together of bulk at most 1048576: NARROWER than '..Said'. Prove '..Said' where nothing that the law and all that it calls make is longer than what came in: it says more and counts as full. Else prove '..UptoSaid'. A law counts once. -/
mutual
def uptoBulk {H : Type} : DataW H → Nat
  | .lit (.string bytes) => bytes.length + 1
  | .lit _ => 1
  | .nil => 1
  | .ptr d => uptoBulk d + 1
  | .slice elems spare => uptoBulkAll elems + uptoBulkAll spare + 1
  | .agg parts => uptoBulkAll parts + 1
  | .iface _ d => uptoBulk d + 1
  | .map entries => uptoBulkEntries entries + 1
  | .held _ => 1
def uptoBulkAll {H : Type} : List (DataW H) → Nat
  | [] => 0
  | d :: r => uptoBulk d + uptoBulkAll r
def uptoBulkEntries {H : Type} : List (Lit × DataW H) → Nat
  | [] => 0
  | x :: r => uptoBulkEntry x + uptoBulkEntries r
def uptoBulkEntry {H : Type} : Lit × DataW H → Nat
  | (.string bytes, d) => bytes.length + uptoBulk d + 1
  | (_, d) => uptoBulk d + 1
 end
def uptoSmall : (H : Type) → List (DataW H) → Bool := fun _ ds => decide (uptoBulkAll ds ≤ 1048576)
def OpenSpec.upto (s : _root_.Go.ChangeSpec) : _root_.Go.OpenSpec := { _root_.Go.OpenSpec.ofChange s with cond := some uptoSmall }

/-- 'narthexlaw09.LinkWaits', WHERE WHAT IT READS IS OF BULK AT MOST 1048576: true; the input reads as it did. -/
def linkWaitsUptoRow : OpenClaim := { program := "ytblaanohidldpaa", sum := "8de08fb29aa16d2772e474b129695cb5e394c1f6ccebd161b09430b5e7c800b2", func := "narthex/narthexlaw09.LinkWaits", spec := "linkWaits", unfollowed := true, recurses := true, apart := false, narrowed := true }
def LinkWaitsUptoSaid : Prop := linkWaitsUptoRow.holds Try.pinned (OpenSpec.upto linkWaitsSpec)

/-- 'narthexlaw09.LinkDoes', WHERE WHAT IT READS IS OF BULK AT MOST 1048576: true; the input reads as it did. -/
def linkDoesUptoRow : OpenClaim := { program := "ytblaanohidldpaa", sum := "8de08fb29aa16d2772e474b129695cb5e394c1f6ccebd161b09430b5e7c800b2", func := "narthex/narthexlaw09.LinkDoes", spec := "linkDoes", unfollowed := true, recurses := true, apart := false, narrowed := true }
def LinkDoesUptoSaid : Prop := linkDoesUptoRow.holds Try.pinned (OpenSpec.upto linkDoesSpec)

/-- 'narthexlaw09.LinkOnce', WHERE WHAT IT READS IS OF BULK AT MOST 1048576: true; the input reads as it did. -/
def linkOnceUptoRow : OpenClaim := { program := "ytblaanohidldpaa", sum := "8de08fb29aa16d2772e474b129695cb5e394c1f6ccebd161b09430b5e7c800b2", func := "narthex/narthexlaw09.LinkOnce", spec := "linkOnce", unfollowed := true, recurses := true, apart := false, narrowed := true }
def LinkOnceUptoSaid : Prop := linkOnceUptoRow.holds Try.pinned (OpenSpec.upto linkOnceSpec)

/-- 'narthexlaw09.LinkAll', WHERE WHAT IT READS IS OF BULK AT MOST 1048576: true; the input reads as it did. -/
def linkAllUptoRow : OpenClaim := { program := "ytblaanohidldpaa", sum := "8de08fb29aa16d2772e474b129695cb5e394c1f6ccebd161b09430b5e7c800b2", func := "narthex/narthexlaw09.LinkAll", spec := "linkAll", unfollowed := true, recurses := true, apart := false, narrowed := true }
def LinkAllUptoSaid : Prop := linkAllUptoRow.holds Try.pinned (OpenSpec.upto linkAllSpec)

/-- 'narthexlaw09.LinkEpochs', WHERE WHAT IT READS IS OF BULK AT MOST 1048576: true; the input reads as it did. -/
def linkEpochsUptoRow : OpenClaim := { program := "ytblaanohidldpaa", sum := "8de08fb29aa16d2772e474b129695cb5e394c1f6ccebd161b09430b5e7c800b2", func := "narthex/narthexlaw09.LinkEpochs", spec := "linkEpochs", unfollowed := true, recurses := true, apart := false, narrowed := true }
def LinkEpochsUptoSaid : Prop := linkEpochsUptoRow.holds Try.pinned (OpenSpec.upto linkEpochsSpec)

/-- 'narthexlaw09.LinkWindow', WHERE WHAT IT READS IS OF BULK AT MOST 1048576: true; the input reads as it did. -/
def linkWindowUptoRow : OpenClaim := { program := "ytblaanohidldpaa", sum := "8de08fb29aa16d2772e474b129695cb5e394c1f6ccebd161b09430b5e7c800b2", func := "narthex/narthexlaw09.LinkWindow", spec := "linkWindow", unfollowed := true, recurses := true, apart := false, narrowed := true }
def LinkWindowUptoSaid : Prop := linkWindowUptoRow.holds Try.pinned (OpenSpec.upto linkWindowSpec)

end Rows
end Go.Proofs.Ytblaanohidldpaa
