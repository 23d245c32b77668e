/-
  No cell of these rows narrows 'for every input' (looked for: loops, veiled, ifaces, maps, wideKeys, modest, calm, conditions, laid).
  DERIVED. THE GIVEN ROWS OF THIS SEAT. 6 by the template 'for every input the law returns true; each argument reads behind the call as it read before'; 0 by the template 'total and deterministic' (their statements: YtndiclkfincbgaaTotals.lean).
  GIVEN WITH THE SEED: the statements are not yours to turn. If you find one false, say at which input.
  Laid BY PROGRAM, IN A SANDBOX (cutbox-rows.mjs): the forced cells as the released guide's own fill.sh prints them over the translation 76a73c10277a8c77… (all of the seat's roots in one cut). By AI agents, Wed Nov 11 2026. No macro, syntax, notation, axiom, sorry.
-/
import Derived.Test.YtndiclkfincbgaaChecked
import GoSem.Claim
import GoSem.ClaimJoined
import GoSem.ClaimMapViews
import Derived.JoinedTies
import Derived.KernelRfl
namespace Go.Proofs.Ytndiclkfincbgaa
/- THE CELL 'sum', in the pinned program and in every row, IS THE sha256 OF THE DUMP (.gsa) THAT YtndiclkfincbgaaProg.lean LOADS. Nothing in Lean hashes anything: it is a label: what it is worth is what the hold of that sum in a sandbox is worth. -/
noncomputable def Try.pinned : Pinned := { name := "ytndiclkfincbgaa", sum := "76a73c10277a8c77621fb038d4c50bfe32cbb0927744c07379ab6546a6e68e45", checked := Try.checked }
namespace Rows
def none {H : Type} : Left H := { results := [], args := [] }

/-- 'narthexlaw08.NetDoes': WHATEVER THE INPUT: true; the input reads as it did. -/
def netDoesSpec : ChangeSpec := { name := "netDoes", fn := fun _ => fun
  | [d1, d2, d3] => { results := [.lit (.bool true)], args := [d1, d2, d3] }
  | _ => none }
def netDoesRow : OpenClaim := { program := "ytndiclkfincbgaa", sum := "76a73c10277a8c77621fb038d4c50bfe32cbb0927744c07379ab6546a6e68e45", func := "narthex/narthexlaw08.NetDoes", spec := "netDoes", plainKeys := false, apart := false }
def NetDoesSaid : Prop := netDoesRow.holds Try.pinned (OpenSpec.ofChange netDoesSpec)

/-- ITS FALSE NEIGHBOUR: 'it returns false'. Refute it at one input. -/
def netDoesWrong : ChangeSpec := { name := "netDoes", fn := fun _ => fun
  | [d1, d2, d3] => { results := [.lit (.bool false)], args := [d1, d2, d3] }
  | _ => none }
def NetDoesWrongFalsely : Prop := netDoesRow.holds Try.pinned (OpenSpec.ofChange netDoesWrong)

/-- 'narthexlaw08.NetOnly': WHATEVER THE INPUT: true; the input reads as it did. -/
def netOnlySpec : ChangeSpec := { name := "netOnly", fn := fun _ => fun
  | [d1, d2, d3] => { results := [.lit (.bool true)], args := [d1, d2, d3] }
  | _ => none }
def netOnlyRow : OpenClaim := { program := "ytndiclkfincbgaa", sum := "76a73c10277a8c77621fb038d4c50bfe32cbb0927744c07379ab6546a6e68e45", func := "narthex/narthexlaw08.NetOnly", spec := "netOnly", plainKeys := false, apart := false }
def NetOnlySaid : Prop := netOnlyRow.holds Try.pinned (OpenSpec.ofChange netOnlySpec)

/-- ITS FALSE NEIGHBOUR: 'it returns false'. Refute it at one input. -/
def netOnlyWrong : ChangeSpec := { name := "netOnly", fn := fun _ => fun
  | [d1, d2, d3] => { results := [.lit (.bool false)], args := [d1, d2, d3] }
  | _ => none }
def NetOnlyWrongFalsely : Prop := netOnlyRow.holds Try.pinned (OpenSpec.ofChange netOnlyWrong)

/-- 'narthexlaw08.NetCounts': WHATEVER THE INPUT: true; the input reads as it did. -/
def netCountsSpec : ChangeSpec := { name := "netCounts", fn := fun _ => fun
  | [d1, d2, d3] => { results := [.lit (.bool true)], args := [d1, d2, d3] }
  | _ => none }
def netCountsRow : OpenClaim := { program := "ytndiclkfincbgaa", sum := "76a73c10277a8c77621fb038d4c50bfe32cbb0927744c07379ab6546a6e68e45", func := "narthex/narthexlaw08.NetCounts", spec := "netCounts", plainKeys := false, apart := false }
def NetCountsSaid : Prop := netCountsRow.holds Try.pinned (OpenSpec.ofChange netCountsSpec)

/-- ITS FALSE NEIGHBOUR: 'it returns false'. Refute it at one input. -/
def netCountsWrong : ChangeSpec := { name := "netCounts", fn := fun _ => fun
  | [d1, d2, d3] => { results := [.lit (.bool false)], args := [d1, d2, d3] }
  | _ => none }
def NetCountsWrongFalsely : Prop := netCountsRow.holds Try.pinned (OpenSpec.ofChange netCountsWrong)

/-- 'narthexlaw08.NetFlips': WHATEVER THE INPUT: true; the input reads as it did. -/
def netFlipsSpec : ChangeSpec := { name := "netFlips", fn := fun _ => fun
  | [d1, d2, d3] => { results := [.lit (.bool true)], args := [d1, d2, d3] }
  | _ => none }
def netFlipsRow : OpenClaim := { program := "ytndiclkfincbgaa", sum := "76a73c10277a8c77621fb038d4c50bfe32cbb0927744c07379ab6546a6e68e45", func := "narthex/narthexlaw08.NetFlips", spec := "netFlips", plainKeys := false, apart := false }
def NetFlipsSaid : Prop := netFlipsRow.holds Try.pinned (OpenSpec.ofChange netFlipsSpec)

/-- ITS FALSE NEIGHBOUR: 'it returns false'. Refute it at one input. -/
def netFlipsWrong : ChangeSpec := { name := "netFlips", fn := fun _ => fun
  | [d1, d2, d3] => { results := [.lit (.bool false)], args := [d1, d2, d3] }
  | _ => none }
def NetFlipsWrongFalsely : Prop := netFlipsRow.holds Try.pinned (OpenSpec.ofChange netFlipsWrong)

/-- 'narthexlaw08.NetOrder': WHATEVER THE INPUT: true; the input reads as it did. -/
def netOrderSpec : ChangeSpec := { name := "netOrder", fn := fun _ => fun
  | [d] => { results := [.lit (.bool true)], args := [d] }
  | _ => none }
def netOrderRow : OpenClaim := { program := "ytndiclkfincbgaa", sum := "76a73c10277a8c77621fb038d4c50bfe32cbb0927744c07379ab6546a6e68e45", func := "narthex/narthexlaw08.NetOrder", spec := "netOrder", plainKeys := false, apart := false }
def NetOrderSaid : Prop := netOrderRow.holds Try.pinned (OpenSpec.ofChange netOrderSpec)

/-- ITS FALSE NEIGHBOUR: 'it returns false'. Refute it at one input. -/
def netOrderWrong : ChangeSpec := { name := "netOrder", fn := fun _ => fun
  | [d] => { results := [.lit (.bool false)], args := [d] }
  | _ => none }
def NetOrderWrongFalsely : Prop := netOrderRow.holds Try.pinned (OpenSpec.ofChange netOrderWrong)

/-- 'narthexlaw08.NetOthers': WHATEVER THE INPUT: true; the input reads as it did. -/
def netOthersSpec : ChangeSpec := { name := "netOthers", fn := fun _ => fun
  | [d1, d2, d3, d4, d5] => { results := [.lit (.bool true)], args := [d1, d2, d3, d4, d5] }
  | _ => none }
def netOthersRow : OpenClaim := { program := "ytndiclkfincbgaa", sum := "76a73c10277a8c77621fb038d4c50bfe32cbb0927744c07379ab6546a6e68e45", func := "narthex/narthexlaw08.NetOthers", spec := "netOthers", plainKeys := false, apart := false }
def NetOthersSaid : Prop := netOthersRow.holds Try.pinned (OpenSpec.ofChange netOthersSpec)

/-- ITS FALSE NEIGHBOUR: 'it returns false'. Refute it at one input. -/
def netOthersWrong : ChangeSpec := { name := "netOthers", fn := fun _ => fun
  | [d1, d2, d3, d4, d5] => { results := [.lit (.bool false)], args := [d1, d2, d3, d4, d5] }
  | _ => none }
def NetOthersWrongFalsely : Prop := netOthersRow.holds Try.pinned (OpenSpec.ofChange netOthersWrong)

/- THE SECOND FORM. 'bulk': how many values and letters a reading holds, each counted each time it is reached (what is shared counts as often as it is met; a slice's spare places count too). A statement '..UptoSaid' is the law's where the arguments, and the package variables that the reading takes, are together of bulk at most 1048576: NARROWER than '..Said'. Prove '..Said' where nothing that the law and all that it calls make is longer than what came in: it says more and counts as full. Else prove '..UptoSaid'. A law counts once. -/
mutual
def uptoBulk {H : Type} : DataW H → Nat
  | .lit (.string bytes) => bytes.length + 1
  | .lit _ => 1
  | .nil => 1
  | .ptr d => uptoBulk d + 1
  | .slice elems spare => uptoBulkAll elems + uptoBulkAll spare + 1
  | .agg parts => uptoBulkAll parts + 1
  | .iface _ d => uptoBulk d + 1
  | .map entries => uptoBulkEntries entries + 1
  | .held _ => 1
def uptoBulkAll {H : Type} : List (DataW H) → Nat
  | [] => 0
  | d :: r => uptoBulk d + uptoBulkAll r
def uptoBulkEntries {H : Type} : List (Lit × DataW H) → Nat
  | [] => 0
  | x :: r => uptoBulkEntry x + uptoBulkEntries r
def uptoBulkEntry {H : Type} : Lit × DataW H → Nat
  | (.string bytes, d) => bytes.length + uptoBulk d + 1
  | (_, d) => uptoBulk d + 1
 end
def uptoSmall : (H : Type) → List (DataW H) → Bool := fun _ ds => decide (uptoBulkAll ds ≤ 1048576)
def OpenSpec.upto (s : _root_.Go.ChangeSpec) : _root_.Go.OpenSpec := { _root_.Go.OpenSpec.ofChange s with cond := some uptoSmall }

/-- 'narthexlaw08.NetDoes', WHERE WHAT IT READS IS OF BULK AT MOST 1048576: true; the input reads as it did. -/
def netDoesUptoRow : OpenClaim := { program := "ytndiclkfincbgaa", sum := "76a73c10277a8c77621fb038d4c50bfe32cbb0927744c07379ab6546a6e68e45", func := "narthex/narthexlaw08.NetDoes", spec := "netDoes", plainKeys := false, apart := false, narrowed := true }
def NetDoesUptoSaid : Prop := netDoesUptoRow.holds Try.pinned (OpenSpec.upto netDoesSpec)

/-- 'narthexlaw08.NetOnly', WHERE WHAT IT READS IS OF BULK AT MOST 1048576: true; the input reads as it did. -/
def netOnlyUptoRow : OpenClaim := { program := "ytndiclkfincbgaa", sum := "76a73c10277a8c77621fb038d4c50bfe32cbb0927744c07379ab6546a6e68e45", func := "narthex/narthexlaw08.NetOnly", spec := "netOnly", plainKeys := false, apart := false, narrowed := true }
def NetOnlyUptoSaid : Prop := netOnlyUptoRow.holds Try.pinned (OpenSpec.upto netOnlySpec)

/-- 'narthexlaw08.NetCounts', WHERE WHAT IT READS IS OF BULK AT MOST 1048576: true; the input reads as it did. -/
def netCountsUptoRow : OpenClaim := { program := "ytndiclkfincbgaa", sum := "76a73c10277a8c77621fb038d4c50bfe32cbb0927744c07379ab6546a6e68e45", func := "narthex/narthexlaw08.NetCounts", spec := "netCounts", plainKeys := false, apart := false, narrowed := true }
def NetCountsUptoSaid : Prop := netCountsUptoRow.holds Try.pinned (OpenSpec.upto netCountsSpec)

/-- 'narthexlaw08.NetFlips', WHERE WHAT IT READS IS OF BULK AT MOST 1048576: true; the input reads as it did. -/
def netFlipsUptoRow : OpenClaim := { program := "ytndiclkfincbgaa", sum := "76a73c10277a8c77621fb038d4c50bfe32cbb0927744c07379ab6546a6e68e45", func := "narthex/narthexlaw08.NetFlips", spec := "netFlips", plainKeys := false, apart := false, narrowed := true }
def NetFlipsUptoSaid : Prop := netFlipsUptoRow.holds Try.pinned (OpenSpec.upto netFlipsSpec)

/-- 'narthexlaw08.NetOrder', WHERE WHAT IT READS IS OF BULK AT MOST 1048576: true; the input reads as it did. -/
def netOrderUptoRow : OpenClaim := { program := "ytndiclkfincbgaa", sum := "76a73c10277a8c77621fb038d4c50bfe32cbb0927744c07379ab6546a6e68e45", func := "narthex/narthexlaw08.NetOrder", spec := "netOrder", plainKeys := false, apart := false, narrowed := true }
def NetOrderUptoSaid : Prop := netOrderUptoRow.holds Try.pinned (OpenSpec.upto netOrderSpec)

/-- 'narthexlaw08.NetOthers', WHERE WHAT IT READS IS OF BULK AT MOST 1048576: true; the input reads as it did. -/
def netOthersUptoRow : OpenClaim := { program := "ytndiclkfincbgaa", sum := "76a73c10277a8c77621fb038d4c50bfe32cbb0927744c07379ab6546a6e68e45", func := "narthex/narthexlaw08.NetOthers", spec := "netOthers", plainKeys := false, apart := false, narrowed := true }
def NetOthersUptoSaid : Prop := netOthersUptoRow.holds Try.pinned (OpenSpec.upto netOthersSpec)

end Rows
end Go.Proofs.Ytndiclkfincbgaa
