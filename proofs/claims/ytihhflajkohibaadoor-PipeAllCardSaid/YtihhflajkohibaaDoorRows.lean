/-
  NARROWER THAN 'FOR EVERY INPUT', by the rows' own cells (each row's printed sentence says how): PipeOnce: laid · PipeAll: laid · PipeTurned: laid · PipeSides: laid · PipeGoes: laid.
  DERIVED. THE GIVEN ROWS OF THIS SEAT. 5 by the template 'for every input the law returns true; each argument reads behind the call as it read before'; 0 by the template 'total and deterministic' (their statements: YtihhflajkohibaaDoorTotals.lean).
  GIVEN WITH THE SEED: the statements are not yours to turn. If you find one false, say at which input.
  Laid BY PROGRAM, IN A SANDBOX (cutbox-rows.mjs): the forced cells as the released guide's own fill.sh prints them over the translation 428f1846e42abaa1… (all of the seat's roots in one cut). By AI agents, Wed Nov 11 2026. No macro, syntax, notation, axiom, sorry.
-/
import Derived.Test.YtihhflajkohibaaDoorChecked
import GoSem.Claim
import GoSem.ClaimJoined
import GoSem.ClaimMapViews
import Derived.JoinedTies
import Derived.KernelRfl
namespace Go.Proofs.YtihhflajkohibaaDoor
/- THE CELL 'sum', in the pinned program and in every row, IS THE sha256 OF THE DUMP (.gsa) THAT YtihhflajkohibaaDoorProg.lean LOADS. Nothing in Lean hashes anything: it is a label: what it is worth is what the hold of that sum in a sandbox is worth. -/
noncomputable def Tryd.pinned : Pinned := { name := "ytihhflajkohibaadoor", sum := "428f1846e42abaa14bd433f262891415b6f5d7301358c393d5495f76f94d26ef", checked := Tryd.checked }
namespace Rows
def none {H : Type} : Left H := { results := [], args := [] }

/- WHAT THE LISTED PACKAGE-LEVEL VARIABLES READ AS WHEN THE CALL BEGINS. Each datum BY PROGRAM (the guide's laid-datum.mjs) off the statement by which the dump's own 'gosem.cut.vars' lays the variable. In a bare row this is a premise. The card (YtihhflajkohibaaDoorCards.lean) ties it to the program's text. -/
def laid_narthex_crc_steps {H : Type} : DataW H := .agg [.lit (.int .u32 0), .lit (.int .u32 498536548), .lit (.int .u32 997073096), .lit (.int .u32 651767980), .lit (.int .u32 1994146192), .lit (.int .u32 1802195444), .lit (.int .u32 1303535960), .lit (.int .u32 1342533948), .lit (.int .u32 3988292384), .lit (.int .u32 4027552580), .lit (.int .u32 3604390888), .lit (.int .u32 3412177804), .lit (.int .u32 2607071920), .lit (.int .u32 2262029012), .lit (.int .u32 2685067896), .lit (.int .u32 3183342108)]
def laid_errors_errorType {H : Type} : DataW H := .iface "internal/reflectlite.rtype" (.agg [.ptr (.lit (.string [101, 114, 114, 111, 114]))])

/-- 'narthexlaw10.PipeOnce': WHATEVER THE INPUT: true; the input reads as it did. -/
def pipeOnceSpec : ChangeSpec := { name := "pipeOnce", fn := fun _ => fun
  | [d1, d2, d3, d4, d5, d6, d7] => { results := [.lit (.bool true)], args := [d1, d2, d3, d4, d5, d6, d7] }
  | _ => none }
def pipeOnceRow : OpenClaim := { program := "ytihhflajkohibaadoor", sum := "428f1846e42abaa14bd433f262891415b6f5d7301358c393d5495f76f94d26ef", func := "narthex/narthexlaw10.PipeOnce", spec := "pipeOnce", inPlace := ["internal/reflectlite.ValueOf", "(internal/reflectlite.Value).Type", "(internal/reflectlite.Value).IsNil", "internal/reflectlite.TypeOf", "(internal/reflectlite.Value).Elem", "(internal/reflectlite.Value).Set"], unfollowed := true, recurses := true, named := ["narthex/crc.steps", "errors.errorType"], plainKeys := false, apart := false, laid := [("narthex/crc.steps", laid_narthex_crc_steps), ("errors.errorType", laid_errors_errorType)] }
def PipeOnceSaid : Prop := pipeOnceRow.holds Tryd.pinned (OpenSpec.ofChange pipeOnceSpec)

/-- ITS FALSE NEIGHBOUR: 'it returns false'. Refute it at one input. -/
def pipeOnceWrong : ChangeSpec := { name := "pipeOnce", fn := fun _ => fun
  | [d1, d2, d3, d4, d5, d6, d7] => { results := [.lit (.bool false)], args := [d1, d2, d3, d4, d5, d6, d7] }
  | _ => none }
def PipeOnceWrongFalsely : Prop := pipeOnceRow.holds Tryd.pinned (OpenSpec.ofChange pipeOnceWrong)

/-- 'narthexlaw10.PipeAll': WHATEVER THE INPUT: true; the input reads as it did. -/
def pipeAllSpec : ChangeSpec := { name := "pipeAll", fn := fun _ => fun
  | [d1, d2, d3, d4, d5, d6, d7] => { results := [.lit (.bool true)], args := [d1, d2, d3, d4, d5, d6, d7] }
  | _ => none }
def pipeAllRow : OpenClaim := { program := "ytihhflajkohibaadoor", sum := "428f1846e42abaa14bd433f262891415b6f5d7301358c393d5495f76f94d26ef", func := "narthex/narthexlaw10.PipeAll", spec := "pipeAll", inPlace := ["internal/reflectlite.ValueOf", "(internal/reflectlite.Value).Type", "(internal/reflectlite.Value).IsNil", "internal/reflectlite.TypeOf", "(internal/reflectlite.Value).Elem", "(internal/reflectlite.Value).Set"], unfollowed := true, recurses := true, named := ["narthex/crc.steps", "errors.errorType"], plainKeys := false, apart := false, laid := [("narthex/crc.steps", laid_narthex_crc_steps), ("errors.errorType", laid_errors_errorType)] }
def PipeAllSaid : Prop := pipeAllRow.holds Tryd.pinned (OpenSpec.ofChange pipeAllSpec)

/-- ITS FALSE NEIGHBOUR: 'it returns false'. Refute it at one input. -/
def pipeAllWrong : ChangeSpec := { name := "pipeAll", fn := fun _ => fun
  | [d1, d2, d3, d4, d5, d6, d7] => { results := [.lit (.bool false)], args := [d1, d2, d3, d4, d5, d6, d7] }
  | _ => none }
def PipeAllWrongFalsely : Prop := pipeAllRow.holds Tryd.pinned (OpenSpec.ofChange pipeAllWrong)

/-- 'narthexlaw10.PipeTurned': WHATEVER THE INPUT: true; the input reads as it did. -/
def pipeTurnedSpec : ChangeSpec := { name := "pipeTurned", fn := fun _ => fun
  | [d1, d2, d3] => { results := [.lit (.bool true)], args := [d1, d2, d3] }
  | _ => none }
def pipeTurnedRow : OpenClaim := { program := "ytihhflajkohibaadoor", sum := "428f1846e42abaa14bd433f262891415b6f5d7301358c393d5495f76f94d26ef", func := "narthex/narthexlaw10.PipeTurned", spec := "pipeTurned", inPlace := ["internal/reflectlite.ValueOf", "(internal/reflectlite.Value).Type", "(internal/reflectlite.Value).IsNil", "internal/reflectlite.TypeOf", "(internal/reflectlite.Value).Elem", "(internal/reflectlite.Value).Set"], unfollowed := true, recurses := true, named := ["narthex/crc.steps", "errors.errorType"], plainKeys := false, apart := false, laid := [("narthex/crc.steps", laid_narthex_crc_steps), ("errors.errorType", laid_errors_errorType)] }
def PipeTurnedSaid : Prop := pipeTurnedRow.holds Tryd.pinned (OpenSpec.ofChange pipeTurnedSpec)

/-- ITS FALSE NEIGHBOUR: 'it returns false'. Refute it at one input. -/
def pipeTurnedWrong : ChangeSpec := { name := "pipeTurned", fn := fun _ => fun
  | [d1, d2, d3] => { results := [.lit (.bool false)], args := [d1, d2, d3] }
  | _ => none }
def PipeTurnedWrongFalsely : Prop := pipeTurnedRow.holds Tryd.pinned (OpenSpec.ofChange pipeTurnedWrong)

/-- 'narthexlaw10.PipeSides': WHATEVER THE INPUT: true; the input reads as it did. -/
def pipeSidesSpec : ChangeSpec := { name := "pipeSides", fn := fun _ => fun
  | [d1, d2, d3, d4, d5, d6, d7, d8, d9] => { results := [.lit (.bool true)], args := [d1, d2, d3, d4, d5, d6, d7, d8, d9] }
  | _ => none }
def pipeSidesRow : OpenClaim := { program := "ytihhflajkohibaadoor", sum := "428f1846e42abaa14bd433f262891415b6f5d7301358c393d5495f76f94d26ef", func := "narthex/narthexlaw10.PipeSides", spec := "pipeSides", inPlace := ["internal/reflectlite.ValueOf", "(internal/reflectlite.Value).Type", "(internal/reflectlite.Value).IsNil", "internal/reflectlite.TypeOf", "(internal/reflectlite.Value).Elem", "(internal/reflectlite.Value).Set"], unfollowed := true, recurses := true, named := ["narthex/crc.steps", "errors.errorType"], plainKeys := false, apart := false, laid := [("narthex/crc.steps", laid_narthex_crc_steps), ("errors.errorType", laid_errors_errorType)] }
def PipeSidesSaid : Prop := pipeSidesRow.holds Tryd.pinned (OpenSpec.ofChange pipeSidesSpec)

/-- ITS FALSE NEIGHBOUR: 'it returns false'. Refute it at one input. -/
def pipeSidesWrong : ChangeSpec := { name := "pipeSides", fn := fun _ => fun
  | [d1, d2, d3, d4, d5, d6, d7, d8, d9] => { results := [.lit (.bool false)], args := [d1, d2, d3, d4, d5, d6, d7, d8, d9] }
  | _ => none }
def PipeSidesWrongFalsely : Prop := pipeSidesRow.holds Tryd.pinned (OpenSpec.ofChange pipeSidesWrong)

/-- 'narthexlaw10.PipeGoes': WHATEVER THE INPUT: true; the input reads as it did. -/
def pipeGoesSpec : ChangeSpec := { name := "pipeGoes", fn := fun _ => fun
  | [d1, d2, d3, d4, d5, d6, d7] => { results := [.lit (.bool true)], args := [d1, d2, d3, d4, d5, d6, d7] }
  | _ => none }
def pipeGoesRow : OpenClaim := { program := "ytihhflajkohibaadoor", sum := "428f1846e42abaa14bd433f262891415b6f5d7301358c393d5495f76f94d26ef", func := "narthex/narthexlaw10.PipeGoes", spec := "pipeGoes", inPlace := ["internal/reflectlite.ValueOf", "(internal/reflectlite.Value).Type", "(internal/reflectlite.Value).IsNil", "internal/reflectlite.TypeOf", "(internal/reflectlite.Value).Elem", "(internal/reflectlite.Value).Set"], unfollowed := true, recurses := true, named := ["narthex/crc.steps", "errors.errorType"], plainKeys := false, apart := false, laid := [("narthex/crc.steps", laid_narthex_crc_steps), ("errors.errorType", laid_errors_errorType)] }
def PipeGoesSaid : Prop := pipeGoesRow.holds Tryd.pinned (OpenSpec.ofChange pipeGoesSpec)

/-- ITS FALSE NEIGHBOUR: 'it returns false'. Refute it at one input. -/
def pipeGoesWrong : ChangeSpec := { name := "pipeGoes", fn := fun _ => fun
  | [d1, d2, d3, d4, d5, d6, d7] => { results := [.lit (.bool false)], args := [d1, d2, d3, d4, d5, d6, d7] }
  | _ => none }
def PipeGoesWrongFalsely : Prop := pipeGoesRow.holds Tryd.pinned (OpenSpec.ofChange pipeGoesWrong)

/- THE SECOND FORM. 'bulk': how many values and letters a reading holds, each counted each time it is reached (what is shared counts as often as it is met; a slice's spare places count too). A statement '..UptoSaid' is the law's where the arguments, and the package variables that the reading takes, are together of bulk at most 1048576: NARROWER than '..Said'. Prove '..Said' where nothing that the law and all that it calls make is longer than what came in: it says more and counts as full. Else prove '..UptoSaid'. A law counts once. -/
mutual
def uptoBulk {H : Type} : DataW H → Nat
  | .lit (.string bytes) => bytes.length + 1
  | .lit _ => 1
  | .nil => 1
  | .ptr d => uptoBulk d + 1
  | .slice elems spare => uptoBulkAll elems + uptoBulkAll spare + 1
  | .agg parts => uptoBulkAll parts + 1
  | .iface _ d => uptoBulk d + 1
  | .map entries => uptoBulkEntries entries + 1
  | .held _ => 1
def uptoBulkAll {H : Type} : List (DataW H) → Nat
  | [] => 0
  | d :: r => uptoBulk d + uptoBulkAll r
def uptoBulkEntries {H : Type} : List (Lit × DataW H) → Nat
  | [] => 0
  | x :: r => uptoBulkEntry x + uptoBulkEntries r
def uptoBulkEntry {H : Type} : Lit × DataW H → Nat
  | (.string bytes, d) => bytes.length + uptoBulk d + 1
  | (_, d) => uptoBulk d + 1
 end
def uptoSmall : (H : Type) → List (DataW H) → Bool := fun _ ds => decide (uptoBulkAll ds ≤ 1048576)
def OpenSpec.upto (s : _root_.Go.ChangeSpec) : _root_.Go.OpenSpec := { _root_.Go.OpenSpec.ofChange s with cond := some uptoSmall }

/-- 'narthexlaw10.PipeOnce', WHERE WHAT IT READS IS OF BULK AT MOST 1048576: true; the input reads as it did. -/
def pipeOnceUptoRow : OpenClaim := { program := "ytihhflajkohibaadoor", sum := "428f1846e42abaa14bd433f262891415b6f5d7301358c393d5495f76f94d26ef", func := "narthex/narthexlaw10.PipeOnce", spec := "pipeOnce", inPlace := ["internal/reflectlite.ValueOf", "(internal/reflectlite.Value).Type", "(internal/reflectlite.Value).IsNil", "internal/reflectlite.TypeOf", "(internal/reflectlite.Value).Elem", "(internal/reflectlite.Value).Set"], unfollowed := true, recurses := true, named := ["narthex/crc.steps", "errors.errorType"], plainKeys := false, apart := false, laid := [("narthex/crc.steps", laid_narthex_crc_steps), ("errors.errorType", laid_errors_errorType)], narrowed := true }
def PipeOnceUptoSaid : Prop := pipeOnceUptoRow.holds Tryd.pinned (OpenSpec.upto pipeOnceSpec)

/-- 'narthexlaw10.PipeAll', WHERE WHAT IT READS IS OF BULK AT MOST 1048576: true; the input reads as it did. -/
def pipeAllUptoRow : OpenClaim := { program := "ytihhflajkohibaadoor", sum := "428f1846e42abaa14bd433f262891415b6f5d7301358c393d5495f76f94d26ef", func := "narthex/narthexlaw10.PipeAll", spec := "pipeAll", inPlace := ["internal/reflectlite.ValueOf", "(internal/reflectlite.Value).Type", "(internal/reflectlite.Value).IsNil", "internal/reflectlite.TypeOf", "(internal/reflectlite.Value).Elem", "(internal/reflectlite.Value).Set"], unfollowed := true, recurses := true, named := ["narthex/crc.steps", "errors.errorType"], plainKeys := false, apart := false, laid := [("narthex/crc.steps", laid_narthex_crc_steps), ("errors.errorType", laid_errors_errorType)], narrowed := true }
def PipeAllUptoSaid : Prop := pipeAllUptoRow.holds Tryd.pinned (OpenSpec.upto pipeAllSpec)

/-- 'narthexlaw10.PipeTurned', WHERE WHAT IT READS IS OF BULK AT MOST 1048576: true; the input reads as it did. -/
def pipeTurnedUptoRow : OpenClaim := { program := "ytihhflajkohibaadoor", sum := "428f1846e42abaa14bd433f262891415b6f5d7301358c393d5495f76f94d26ef", func := "narthex/narthexlaw10.PipeTurned", spec := "pipeTurned", inPlace := ["internal/reflectlite.ValueOf", "(internal/reflectlite.Value).Type", "(internal/reflectlite.Value).IsNil", "internal/reflectlite.TypeOf", "(internal/reflectlite.Value).Elem", "(internal/reflectlite.Value).Set"], unfollowed := true, recurses := true, named := ["narthex/crc.steps", "errors.errorType"], plainKeys := false, apart := false, laid := [("narthex/crc.steps", laid_narthex_crc_steps), ("errors.errorType", laid_errors_errorType)], narrowed := true }
def PipeTurnedUptoSaid : Prop := pipeTurnedUptoRow.holds Tryd.pinned (OpenSpec.upto pipeTurnedSpec)

/-- 'narthexlaw10.PipeSides', WHERE WHAT IT READS IS OF BULK AT MOST 1048576: true; the input reads as it did. -/
def pipeSidesUptoRow : OpenClaim := { program := "ytihhflajkohibaadoor", sum := "428f1846e42abaa14bd433f262891415b6f5d7301358c393d5495f76f94d26ef", func := "narthex/narthexlaw10.PipeSides", spec := "pipeSides", inPlace := ["internal/reflectlite.ValueOf", "(internal/reflectlite.Value).Type", "(internal/reflectlite.Value).IsNil", "internal/reflectlite.TypeOf", "(internal/reflectlite.Value).Elem", "(internal/reflectlite.Value).Set"], unfollowed := true, recurses := true, named := ["narthex/crc.steps", "errors.errorType"], plainKeys := false, apart := false, laid := [("narthex/crc.steps", laid_narthex_crc_steps), ("errors.errorType", laid_errors_errorType)], narrowed := true }
def PipeSidesUptoSaid : Prop := pipeSidesUptoRow.holds Tryd.pinned (OpenSpec.upto pipeSidesSpec)

/-- 'narthexlaw10.PipeGoes', WHERE WHAT IT READS IS OF BULK AT MOST 1048576: true; the input reads as it did. -/
def pipeGoesUptoRow : OpenClaim := { program := "ytihhflajkohibaadoor", sum := "428f1846e42abaa14bd433f262891415b6f5d7301358c393d5495f76f94d26ef", func := "narthex/narthexlaw10.PipeGoes", spec := "pipeGoes", inPlace := ["internal/reflectlite.ValueOf", "(internal/reflectlite.Value).Type", "(internal/reflectlite.Value).IsNil", "internal/reflectlite.TypeOf", "(internal/reflectlite.Value).Elem", "(internal/reflectlite.Value).Set"], unfollowed := true, recurses := true, named := ["narthex/crc.steps", "errors.errorType"], plainKeys := false, apart := false, laid := [("narthex/crc.steps", laid_narthex_crc_steps), ("errors.errorType", laid_errors_errorType)], narrowed := true }
def PipeGoesUptoSaid : Prop := pipeGoesUptoRow.holds Tryd.pinned (OpenSpec.upto pipeGoesSpec)

end Rows
end Go.Proofs.YtihhflajkohibaaDoor
