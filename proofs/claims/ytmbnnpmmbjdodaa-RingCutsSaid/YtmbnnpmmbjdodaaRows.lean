/-
  No cell of these rows narrows 'for every input' (looked for: loops, veiled, ifaces, maps, wideKeys, modest, calm, conditions, laid).
  DERIVED. THE GIVEN ROWS OF THIS SEAT. 6 by the template 'for every input the law returns true; each argument reads behind the call as it read before'; 0 by the template 'total and deterministic' (their statements: YtmbnnpmmbjdodaaTotals.lean).
  GIVEN WITH THE SEED: the statements are not yours to turn. If you find one false, say at which input.
  Laid BY PROGRAM, IN A SANDBOX (cutbox-rows.mjs): the forced cells as the released guide's own fill.sh prints them over the translation d04a2eb709f58452… (all of the seat's roots in one cut). By AI agents, Wed Nov 11 2026. No macro, syntax, notation, axiom, sorry.
-/
import Derived.Test.YtmbnnpmmbjdodaaChecked
import GoSem.Claim
import GoSem.ClaimJoined
import GoSem.ClaimMapViews
import Derived.JoinedTies
import Derived.KernelRfl
namespace Go.Proofs.Ytmbnnpmmbjdodaa
/- THE CELL 'sum', in the pinned program and in every row, IS THE sha256 OF THE DUMP (.gsa) THAT YtmbnnpmmbjdodaaProg.lean LOADS. Nothing in Lean hashes anything: it is a label: what it is worth is what the hold of that sum in a sandbox is worth. -/
noncomputable def Try.pinned : Pinned := { name := "ytmbnnpmmbjdodaa", sum := "d04a2eb709f5845286199faf79d5e9904aed64bd40db40286fedcf28c1c203b5", checked := Try.checked }
namespace Rows
def none {H : Type} : Left H := { results := [], args := [] }

/-- 'narthexlaw02.RingDoes': WHATEVER THE INPUT: true; the input reads as it did. -/
def ringDoesSpec : ChangeSpec := { name := "ringDoes", fn := fun _ => fun
  | [d1, d2] => { results := [.lit (.bool true)], args := [d1, d2] }
  | _ => none }
def ringDoesRow : OpenClaim := { program := "ytmbnnpmmbjdodaa", sum := "d04a2eb709f5845286199faf79d5e9904aed64bd40db40286fedcf28c1c203b5", func := "narthex/narthexlaw02.RingDoes", spec := "ringDoes", apart := false }
def RingDoesSaid : Prop := ringDoesRow.holds Try.pinned (OpenSpec.ofChange ringDoesSpec)

/-- ITS FALSE NEIGHBOUR: 'it returns false'. Refute it at one input. -/
def ringDoesWrong : ChangeSpec := { name := "ringDoes", fn := fun _ => fun
  | [d1, d2] => { results := [.lit (.bool false)], args := [d1, d2] }
  | _ => none }
def RingDoesWrongFalsely : Prop := ringDoesRow.holds Try.pinned (OpenSpec.ofChange ringDoesWrong)

/-- 'narthexlaw02.RingOrder': WHATEVER THE INPUT: true; the input reads as it did. -/
def ringOrderSpec : ChangeSpec := { name := "ringOrder", fn := fun _ => fun
  | [d1, d2, d3] => { results := [.lit (.bool true)], args := [d1, d2, d3] }
  | _ => none }
def ringOrderRow : OpenClaim := { program := "ytmbnnpmmbjdodaa", sum := "d04a2eb709f5845286199faf79d5e9904aed64bd40db40286fedcf28c1c203b5", func := "narthex/narthexlaw02.RingOrder", spec := "ringOrder", apart := false }
def RingOrderSaid : Prop := ringOrderRow.holds Try.pinned (OpenSpec.ofChange ringOrderSpec)

/-- ITS FALSE NEIGHBOUR: 'it returns false'. Refute it at one input. -/
def ringOrderWrong : ChangeSpec := { name := "ringOrder", fn := fun _ => fun
  | [d1, d2, d3] => { results := [.lit (.bool false)], args := [d1, d2, d3] }
  | _ => none }
def RingOrderWrongFalsely : Prop := ringOrderRow.holds Try.pinned (OpenSpec.ofChange ringOrderWrong)

/-- 'narthexlaw02.RingFull': WHATEVER THE INPUT: true; the input reads as it did. -/
def ringFullSpec : ChangeSpec := { name := "ringFull", fn := fun _ => fun
  | [d1, d2] => { results := [.lit (.bool true)], args := [d1, d2] }
  | _ => none }
def ringFullRow : OpenClaim := { program := "ytmbnnpmmbjdodaa", sum := "d04a2eb709f5845286199faf79d5e9904aed64bd40db40286fedcf28c1c203b5", func := "narthex/narthexlaw02.RingFull", spec := "ringFull", apart := false }
def RingFullSaid : Prop := ringFullRow.holds Try.pinned (OpenSpec.ofChange ringFullSpec)

/-- ITS FALSE NEIGHBOUR: 'it returns false'. Refute it at one input. -/
def ringFullWrong : ChangeSpec := { name := "ringFull", fn := fun _ => fun
  | [d1, d2] => { results := [.lit (.bool false)], args := [d1, d2] }
  | _ => none }
def RingFullWrongFalsely : Prop := ringFullRow.holds Try.pinned (OpenSpec.ofChange ringFullWrong)

/-- 'narthexlaw02.RingCuts': WHATEVER THE INPUT: true; the input reads as it did. -/
def ringCutsSpec : ChangeSpec := { name := "ringCuts", fn := fun _ => fun
  | [d1, d2] => { results := [.lit (.bool true)], args := [d1, d2] }
  | _ => none }
def ringCutsRow : OpenClaim := { program := "ytmbnnpmmbjdodaa", sum := "d04a2eb709f5845286199faf79d5e9904aed64bd40db40286fedcf28c1c203b5", func := "narthex/narthexlaw02.RingCuts", spec := "ringCuts", apart := false }
def RingCutsSaid : Prop := ringCutsRow.holds Try.pinned (OpenSpec.ofChange ringCutsSpec)

/-- ITS FALSE NEIGHBOUR: 'it returns false'. Refute it at one input. -/
def ringCutsWrong : ChangeSpec := { name := "ringCuts", fn := fun _ => fun
  | [d1, d2] => { results := [.lit (.bool false)], args := [d1, d2] }
  | _ => none }
def RingCutsWrongFalsely : Prop := ringCutsRow.holds Try.pinned (OpenSpec.ofChange ringCutsWrong)

/-- 'narthexlaw02.RingTexts': WHATEVER THE INPUT: true; the input reads as it did. -/
def ringTextsSpec : ChangeSpec := { name := "ringTexts", fn := fun _ => fun
  | [d1, d2] => { results := [.lit (.bool true)], args := [d1, d2] }
  | _ => none }
def ringTextsRow : OpenClaim := { program := "ytmbnnpmmbjdodaa", sum := "d04a2eb709f5845286199faf79d5e9904aed64bd40db40286fedcf28c1c203b5", func := "narthex/narthexlaw02.RingTexts", spec := "ringTexts", apart := false }
def RingTextsSaid : Prop := ringTextsRow.holds Try.pinned (OpenSpec.ofChange ringTextsSpec)

/-- ITS FALSE NEIGHBOUR: 'it returns false'. Refute it at one input. -/
def ringTextsWrong : ChangeSpec := { name := "ringTexts", fn := fun _ => fun
  | [d1, d2] => { results := [.lit (.bool false)], args := [d1, d2] }
  | _ => none }
def RingTextsWrongFalsely : Prop := ringTextsRow.holds Try.pinned (OpenSpec.ofChange ringTextsWrong)

/-- 'narthexlaw02.RingAgain': WHATEVER THE INPUT: true; the input reads as it did. -/
def ringAgainSpec : ChangeSpec := { name := "ringAgain", fn := fun _ => fun
  | [d1, d2, d3] => { results := [.lit (.bool true)], args := [d1, d2, d3] }
  | _ => none }
def ringAgainRow : OpenClaim := { program := "ytmbnnpmmbjdodaa", sum := "d04a2eb709f5845286199faf79d5e9904aed64bd40db40286fedcf28c1c203b5", func := "narthex/narthexlaw02.RingAgain", spec := "ringAgain", apart := false }
def RingAgainSaid : Prop := ringAgainRow.holds Try.pinned (OpenSpec.ofChange ringAgainSpec)

/-- ITS FALSE NEIGHBOUR: 'it returns false'. Refute it at one input. -/
def ringAgainWrong : ChangeSpec := { name := "ringAgain", fn := fun _ => fun
  | [d1, d2, d3] => { results := [.lit (.bool false)], args := [d1, d2, d3] }
  | _ => none }
def RingAgainWrongFalsely : Prop := ringAgainRow.holds Try.pinned (OpenSpec.ofChange ringAgainWrong)

/- THE SECOND FORM. 'bulk': how many values and letters a reading holds, each counted each time it is reached (what is shared counts as often as it is met; a slice's spare places count too). A statement '..UptoSaid' is the law's where the arguments, and the package variables that the reading takes, are together of bulk at most 1048576: NARROWER than '..Said'. Prove '..Said' where nothing that the law and all that it calls make is longer than what came in: it says more and counts as full. Else prove '..UptoSaid'. A law counts once. -/
mutual
def uptoBulk {H : Type} : DataW H → Nat
  | .lit (.string bytes) => bytes.length + 1
  | .lit _ => 1
  | .nil => 1
  | .ptr d => uptoBulk d + 1
  | .slice elems spare => uptoBulkAll elems + uptoBulkAll spare + 1
  | .agg parts => uptoBulkAll parts + 1
  | .iface _ d => uptoBulk d + 1
  | .map entries => uptoBulkEntries entries + 1
  | .held _ => 1
def uptoBulkAll {H : Type} : List (DataW H) → Nat
  | [] => 0
  | d :: r => uptoBulk d + uptoBulkAll r
def uptoBulkEntries {H : Type} : List (Lit × DataW H) → Nat
  | [] => 0
  | x :: r => uptoBulkEntry x + uptoBulkEntries r
def uptoBulkEntry {H : Type} : Lit × DataW H → Nat
  | (.string bytes, d) => bytes.length + uptoBulk d + 1
  | (_, d) => uptoBulk d + 1
 end
def uptoSmall : (H : Type) → List (DataW H) → Bool := fun _ ds => decide (uptoBulkAll ds ≤ 1048576)
def OpenSpec.upto (s : _root_.Go.ChangeSpec) : _root_.Go.OpenSpec := { _root_.Go.OpenSpec.ofChange s with cond := some uptoSmall }

/-- 'narthexlaw02.RingDoes', WHERE WHAT IT READS IS OF BULK AT MOST 1048576: true; the input reads as it did. -/
def ringDoesUptoRow : OpenClaim := { program := "ytmbnnpmmbjdodaa", sum := "d04a2eb709f5845286199faf79d5e9904aed64bd40db40286fedcf28c1c203b5", func := "narthex/narthexlaw02.RingDoes", spec := "ringDoes", apart := false, narrowed := true }
def RingDoesUptoSaid : Prop := ringDoesUptoRow.holds Try.pinned (OpenSpec.upto ringDoesSpec)

/-- 'narthexlaw02.RingOrder', WHERE WHAT IT READS IS OF BULK AT MOST 1048576: true; the input reads as it did. -/
def ringOrderUptoRow : OpenClaim := { program := "ytmbnnpmmbjdodaa", sum := "d04a2eb709f5845286199faf79d5e9904aed64bd40db40286fedcf28c1c203b5", func := "narthex/narthexlaw02.RingOrder", spec := "ringOrder", apart := false, narrowed := true }
def RingOrderUptoSaid : Prop := ringOrderUptoRow.holds Try.pinned (OpenSpec.upto ringOrderSpec)

/-- 'narthexlaw02.RingFull', WHERE WHAT IT READS IS OF BULK AT MOST 1048576: true; the input reads as it did. -/
def ringFullUptoRow : OpenClaim := { program := "ytmbnnpmmbjdodaa", sum := "d04a2eb709f5845286199faf79d5e9904aed64bd40db40286fedcf28c1c203b5", func := "narthex/narthexlaw02.RingFull", spec := "ringFull", apart := false, narrowed := true }
def RingFullUptoSaid : Prop := ringFullUptoRow.holds Try.pinned (OpenSpec.upto ringFullSpec)

/-- 'narthexlaw02.RingCuts', WHERE WHAT IT READS IS OF BULK AT MOST 1048576: true; the input reads as it did. -/
def ringCutsUptoRow : OpenClaim := { program := "ytmbnnpmmbjdodaa", sum := "d04a2eb709f5845286199faf79d5e9904aed64bd40db40286fedcf28c1c203b5", func := "narthex/narthexlaw02.RingCuts", spec := "ringCuts", apart := false, narrowed := true }
def RingCutsUptoSaid : Prop := ringCutsUptoRow.holds Try.pinned (OpenSpec.upto ringCutsSpec)

/-- 'narthexlaw02.RingTexts', WHERE WHAT IT READS IS OF BULK AT MOST 1048576: true; the input reads as it did. -/
def ringTextsUptoRow : OpenClaim := { program := "ytmbnnpmmbjdodaa", sum := "d04a2eb709f5845286199faf79d5e9904aed64bd40db40286fedcf28c1c203b5", func := "narthex/narthexlaw02.RingTexts", spec := "ringTexts", apart := false, narrowed := true }
def RingTextsUptoSaid : Prop := ringTextsUptoRow.holds Try.pinned (OpenSpec.upto ringTextsSpec)

/-- 'narthexlaw02.RingAgain', WHERE WHAT IT READS IS OF BULK AT MOST 1048576: true; the input reads as it did. -/
def ringAgainUptoRow : OpenClaim := { program := "ytmbnnpmmbjdodaa", sum := "d04a2eb709f5845286199faf79d5e9904aed64bd40db40286fedcf28c1c203b5", func := "narthex/narthexlaw02.RingAgain", spec := "ringAgain", apart := false, narrowed := true }
def RingAgainUptoSaid : Prop := ringAgainUptoRow.holds Try.pinned (OpenSpec.upto ringAgainSpec)

end Rows
end Go.Proofs.Ytmbnnpmmbjdodaa
