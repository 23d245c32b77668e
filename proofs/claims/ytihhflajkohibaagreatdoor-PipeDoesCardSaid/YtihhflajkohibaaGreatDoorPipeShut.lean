/- What the cards of layer 10 share: the world of the witness, the table, the variable of package errors, the row's last step from 'Below' alone. -/
import Derived.Test.YtihhflajkohibaaGreatDoorCrcMany
import Derived.Test.YtihhflajkohibaaGreatDoorLinkPlain
import Derived.Test.YtihhflajkohibaaGreatDoorFrMany
import Derived.WalkKit
import Derived.ProofKit
import Derived.OpenShut
import Derived.ShutString
import Derived.ChangeSame
import Derived.Deep.DeepHandedRow
import Derived.Lib.LaidTab
import Derived.LaidHandle
import Derived.LaidLaws
namespace Go.Proofs.YtihhflajkohibaaGreatDoor
set_option linter.unusedSimpArgs false
set_option linter.unusedVariables false
set_option maxRecDepth 100000
open Go.ChangeShapes Go.WideShapes Go.ChangeAt Go.RowKit

theorem knobNone : ownKnob Tryz.prog.godebug = none := by kernel_rfl
theorem gTab : Tryz.prog.globalNamed "narthex/crc.steps" = some 1 := by kernel_rfl
theorem gErr : Tryz.prog.globalNamed "errors.errorType" = some 0 := by kernel_rfl
theorem gTabType : (Tryz.prog.globals[1]?).map (·.type) = some 164 := by kernel_rfl
theorem cellsT : Tryz.prog.cellsOf 164 = 16 := by kernel_rfl
theorem cellsE : Tryz.prog.cellsOf 121 = 1 := by kernel_rfl
theorem rtypeAt : (Tryz.prog.cutTypes.find? (·.1 == "internal/reflectlite.rtype")).map (·.2) = some 166 := by kernel_rfl
theorem oneRow : ((List.range 207).filter fun t => Tryz.prog.rowNamed t [101, 114, 114, 111, 114]) = [132] := by kernel_rfl
theorem typesSize : Tryz.prog.types.size = 207 := by kernel_rfl
def tabI : List Int := [0, 498536548, 997073096, 651767980, 1994146192, 1802195444, 1303535960, 1342533948, 3988292384, 4027552580, 3604390888, 3412177804, 2607071920, 2262029012, 2685067896, 3183342108]
theorem tab_val : ∀ i : Fin 16, tabI.getD i.val 0 = val (Crc.tab i.val) := by decide
/-- the table's premise, and the handle's -/
theorem laid_parts {W : World} (h : laidMetH Tryz.prog [("narthex/crc.steps", Rows.laid_narthex_crc_steps), ("errors.errorType", Rows.laid_errors_errorType)] W) :
    laidMet Tryz.prog [("narthex/crc.steps", Rows.laid_narthex_crc_steps)] W ∧ handlesMet Tryz.prog [("errors.errorType", Rows.laid_errors_errorType)] W := h
theorem tabAt {W : World} (h : laidMetH Tryz.prog [("narthex/crc.steps", Rows.laid_narthex_crc_steps), ("errors.errorType", Rows.laid_errors_errorType)] W) : TabAt W := by
  have hi : Lib.TabIs Tryz.prog W "narthex/crc.steps" .u32 tabI := Lib.tabIs_of_head (rest := []) gTab gTabType Tryz.underlying164 Tryz.underlying121 cellsE cellsT (laid_parts h).1
  intro i hlt
  rw [hi.cell gTab i (by simpa [tabI] using hlt), tab_val ⟨i, hlt⟩]
theorem errAt {W : World} (h : laidMetH Tryz.prog [("narthex/crc.steps", Rows.laid_narthex_crc_steps), ("errors.errorType", Rows.laid_errors_errorType)] W) : Frame.ErrAt W := by
  obtain ⟨name, u, ty, e1, e2, e3, e4, e5⟩ := (laid_parts h).2 _ (List.mem_singleton.2 rfl)
  have en : name = [101, 114, 114, 111, 114] := (Option.some.inj e1).symm
  subst en
  obtain rfl := Option.some.inj (rtypeAt.symm.trans e2)
  have hm : ty ∈ (List.range 207).filter fun t => Tryz.prog.rowNamed t [101, 114, 114, 111, 114] := List.mem_filter.2 ⟨List.mem_range.2 (by rw [← typesSize]; exact e3), e4⟩
  rw [oneRow] at hm
  obtain rfl := List.mem_singleton.1 hm
  have hh : typeHandle Tryz.prog 132 = .pointer (some ⟨2, 132, none⟩) := by kernel_rfl
  rw [hh] at e5
  have h := World.var?_cell gErr e5 0
  unfold Frame.ErrAt
  simpa using h

def layTab : Obj → Obj
  | .cells _ t frozen => .cells (tabI.map (Value.int .u32)).toArray t frozen
  | o => o
def layErr : Obj → Obj
  | .cells _ t frozen => .cells #[.iface 166 (.agg #[.pointer (some ⟨2, 132, none⟩)])] t frozen
  | o => o
/-- a world for the witness: the settled one, the table and the variable holding what their initialisers lay -/
noncomputable def laidWorld (os : Os) : World :=
  { World.holding Tryz.prog os ⟨#[], #[], []⟩ with heap := (Array.modify (Array.modify (World.holding Tryz.prog os ⟨#[], #[], []⟩).heap 1 layTab) 0 layErr) }

section
variable {H : Type} {enc : TypeId × Value → H} {P : Program}
theorem post_of_below {f : Func} {s : ChangeSpec} {apart fresh handsOn again : Bool} {W W' : World} {args : Array Value} {v : Value} {ds gs : List (DataW H)} {before pa pv : List MemPlace}
    (hW : DataW.Whole enc P f.params.toList s.vars apart W args.toList ds gs before)
    (hres : ∀ (b : Nat) (sp : Nat → Bool) (hd : Bool), DataW.TrodAll enc P W' b sp hd f.resultTypes.toList (v.resultList f.resultTypes.size) (s.fn H (ds ++ gs)).results [])
    (hargs : ∀ sp : Nat → Bool, (∀ p ∈ before, sp p.block = true) → DataW.TrodAll enc P W' 0 sp true f.params.toList args.toList (s.fn H (ds ++ gs)).args pa)
    (hvars : ∀ sp : Nat → Bool, (∀ p ∈ before, sp p.block = true) → DataW.TrodVars enc P W' sp s.vars (s.fn H (ds ++ gs)).vars pv)
    (hps : before = pa ++ pv) (hb : Below W.heap.size W W')
    (hok : ∀ (j : Nat) (t : TypeId) (r : Value), f.resultTypes[j]? = some t → (v.resultList f.resultTypes.size)[j]? = some r → Value.okWide P W' .any 0 t r) :
    s.post enc P f apart fresh handsOn again W args v W' := by
  have hlt : ∀ p ∈ before, p.block < W.heap.size := fun p hp => hW.lt p hp
  have hold : ∀ p ∈ before, (fun b => decide (b < W.heap.size)) p.block = true := fun p hp => by simpa using hlt p hp
  refine ⟨ds, gs, before, [], pa, pv, hW, hres _ _ _, hargs _ hold, hvars _ hold, World.keptBut_mono (fun p hp => ⟨hp, ?_⟩) (hb.frame (· ∈ before)), fun _ => ?_⟩
  · rw [hps, List.mem_append] at hp
    exact Or.inr hp
  · obtain ⟨_, _, _, _, _, hz, hn⟩ := hW
    refine ⟨hok, _, _, ([] ++ pa) ++ pv, ⟨[] ++ pa, pv, trodAll_append (hargs _ (fun _ _ => rfl)) (hres _ _ _), hvars _ (fun _ _ => rfl), rfl, ?_, ?_⟩, ?_⟩
    · intro b off hp
      have hin : MemPlace.cell b off ∈ before := by rw [hps]; simpa using hp
      rw [hb.frozen (hlt _ hin)]
      exact hz b off hin
    · intro ha
      have := hn ha
      rw [hps] at this
      simpa using this
    · intro p hp _
      rw [hps]
      simpa using hp
end
namespace Pipe
theorem u_wf {a : Int} (h : (Lit.int .u64 a).wf = true) : Link.u a = a := by
  rw [Link.u_eq]
  simp [Lit.wf, IntKind.min, IntKind.max, IntKind.bits, IntKind.signed] at h
  omega
end Pipe
end Go.Proofs.YtihhflajkohibaaGreatDoor
