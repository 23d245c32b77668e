/- Layer 10, plain: a frame of which a bit is turned comes to nothing; sent again it is told. No function of the program. -/
import Derived.Test.YtihhflajkohibaaDoorPipePlain
namespace Go.Proofs.YtihhflajkohibaaDoor.Pipe
set_option linter.unusedSimpArgs false
set_option linter.unusedVariables false
set_option maxRecDepth 100000
open Go.Proofs.YtihhflajkohibaaDoor.Link (LE Fr)
open Go.Proofs.YtihhflajkohibaaDoor.Net (NS)
/-- the bytes of a frame with a bit turned are others -/
theorem turn_why (f : Fr) (bit : Int) : (Frame.why (NS.turn (bytes f) bit).data.toList).2 ≠ 0 := by
  have hl := Frame.put_length f
  have e : (bytes f).size = (Frame.put f).length := by unfold bytes; exact List.size_toArray
  obtain ⟨k, hk⟩ : ∃ k, NS.place (bytes f).size bit = k := ⟨_, rfl⟩
  have hkl : k / 8 < (Frame.put f).length := by
    rw [← hk, e]
    unfold NS.place
    have := Nat.mod_lt (max (max bit (IntKind.i64.wrap (-bit))) 0).toNat (show 0 < 8 * (Frame.put f).length by omega)
    omega
  have hd : (NS.turn (bytes f) bit).data.toList = (Frame.put f).set (k / 8) ((Frame.put f)[k / 8] ^^^ (1 <<< UInt8.ofNat (k % 8))) := by
    unfold NS.turn
    rw [hk]
    show ((bytes f).data.setIfInBounds _ _).toList = _
    rw [Array.toList_setIfInBounds]
    unfold bytes
    congr 1
    rw [Array.getD_eq_getD_getElem?]
    simp [List.getElem?_eq_getElem hkl]
  rw [hd]
  refine Frame.why_turned f (k / 8) _ hkl fun h => ?_
  have h2 := congrArg UInt8.toNat h
  have h8 : k % 8 < 8 := by omega
  generalize (Frame.put f)[k / 8] = y at *
  have h3 : y ^^^ (1 <<< UInt8.ofNat (k % 8)) = y → (1 : UInt8) <<< UInt8.ofNat (k % 8) = 0 := fun h => by
    have := congrArg (fun z => y ^^^ z) h
    simp only [UInt8.xor_self] at this
    rwa [← UInt8.xor_assoc, UInt8.xor_self, UInt8.zero_xor] at this
  have h4 := h3 h
  revert h4
  generalize k % 8 = j at *
  have : j = 0 ∨ j = 1 ∨ j = 2 ∨ j = 3 ∨ j = 4 ∨ j = 5 ∨ j = 6 ∨ j = 7 := by omega
  rcases this with rfl | rfl | rfl | rfl | rfl | rfl | rfl | rfl <;> decide
section
variable (first : Int) (b : ByteArray)
def E0 : LE := ⟨3, 1, 1, 1, [], first, 0, 0, first, false, 0⟩
def E1 : LE := ⟨3, 1, 1, 1, [b], first, 0, 0, first, false, 0⟩
def E2 : LE := ⟨3, 1, 1, 1, [b], first, 1, 1, first, false, 0⟩
def E5 : LE := ⟨3, 1, 1, 1, [b], first, 0, 1, first, false, 0⟩
def fr : Fr := ⟨1, 3, first, first, b⟩
def n0 : NS := Net.new 2 1
def nb (l : List ByteArray) : NS := n0.set 1 0 l
def t0 : PS := new 3 first 1 1 1 1
def t1 : PS := (t0 first).send true b
def t2 : PS := (t1 first b).go true
def t3 (bit : Int) : PS := (t2 first b).flip false 0 bit
def t4 (bit : Int) : PS := (t3 first b bit).come false 0
def t5 (bit : Int) : PS := (t4 first b bit).tick true
def t6 (bit : Int) : PS := (t5 first b bit).go true
def t7 (bit : Int) : PS := (t6 first b bit).come false 0
theorem nb_set (l m : List ByteArray) : (nb l).set 1 0 m = nb m := by
  unfold nb NS.set
  congr 1
  funext x y
  simp only
  split <;> rfl
theorem nb_at (l : List ByteArray) : (nb l).f 1 0 = l := NS.set_same _ _ _ _
theorem n0_nb : n0 = nb [] := by
  unfold nb NS.set n0 Net.new
  congr 1
  funext x y
  simp
variable {first b}
theorem nb_sendOk : (nb []).sendOk 1 0 = true := by
  unfold NS.sendOk
  rw [nb_at]
  decide
variable (hu : Link.u first = first) (hb : b.size ≤ 64)
include hb in
theorem right_fr : (fr first b).right = true := by
  unfold Fr.right fr
  simp
  exact hb
include hb in
theorem way_fr : ways 1 0 (nb [], 0) [fr first b] = (nb [bytes (fr first b)], 1) := by
  show way 1 0 (nb [], 0) (fr first b) = _
  unfold way
  rw [if_pos (right_fr hb)]
  simp only [nb_sendOk, if_true]
  unfold NS.send
  rw [nb_sendOk, if_pos rfl, nb_at, nb_set]
  rfl
include hu in
theorem goes_1 : (E1 first b).goes = [fr first b] ∧ (E5 first b).goes = [fr first b] := by
  constructor
  · unfold LE.goes LE.datas LE.acks LE.most E1
    simp [List.range', LE.data, fr]
    exact hu
  · unfold LE.goes LE.datas LE.acks LE.most E5
    simp [List.range', LE.data, fr]
    exact hu
theorem gone_1 : (E1 first b).gone = E2 first b := rfl
theorem gone_5 : (E5 first b).gone = E2 first b := rfl
include hb in
theorem t1_is : t1 first b = ⟨up (fun _ => E0 first) true (E1 first b), fun _ => [], nb []⟩ := by
  unfold t1 PS.send
  have e : ((t0 first).e true).sent b = E1 first b := by
    show (E0 first).sent b = _
    unfold LE.sent
    rw [if_pos ⟨hb, by show 0 < 1; omega⟩]
    rfl
  rw [e, ← n0_nb]
  rfl
include hb in
theorem t1_e : ((t0 first).e true).sendE b = 0 := by
  show (E0 first).sendE b = 0
  unfold LE.sendE
  rw [if_neg (by omega), if_neg (by show ¬ (1 ≤ 0); omega)]
include hu hb in
theorem t2_is : t2 first b = ⟨up (fun _ => E0 first) true (E2 first b), fun _ => [], nb [bytes (fr first b)]⟩ ∧ ((t1 first b).gone true).2 = 1 := by
  have hg : (t1 first b).gone true = (nb [bytes (fr first b)], 1) := by
    unfold PS.gone
    rw [t1_is hb]
    show ways 1 0 (nb [], 0) ((up (fun _ => E0 first) true (E1 first b)) true).goes = _
    rw [up_same, (goes_1 hu).1, way_fr hb]
  refine ⟨?_, by rw [hg]⟩
  unfold t2 PS.go
  rw [hg, t1_is hb]
  simp only [up_same, up_up, gone_1]
theorem nb_isAt (x : ByteArray) : (nb [x]).isAt 1 0 0 = true := by
  unfold NS.isAt; rw [nb_at]; simp
theorem nb_look (x : ByteArray) : (nb [x]).look 1 0 0 = x := by
  unfold NS.look; rw [nb_isAt, if_pos rfl, nb_at]; rfl
theorem nb_deliver (x : ByteArray) : (nb [x]).deliver 1 0 0 = nb [] := by
  unfold NS.deliver; rw [nb_isAt, if_pos rfl, nb_at, nb_set]; rfl
theorem bytes_ne (f : Fr) : ((bytes f).size == 0) = false := by
  have hl := Frame.put_length f
  have e : (bytes f).size = (Frame.put f).length := by unfold bytes; exact List.size_toArray
  exact beq_eq_false_iff_ne.2 (by omega)
theorem nb_flip (f : Fr) (bit : Int) : (nb [bytes f]).flip 1 0 0 bit = nb [NS.turn (bytes f) bit] ∧ (nb [bytes f]).flipOk 1 0 0 = true := by
  have h : (nb [bytes f]).flipOk 1 0 0 = true := by unfold NS.flipOk; rw [nb_isAt, nb_look, bytes_ne]; rfl
  refine ⟨?_, h⟩
  unfold NS.flip
  rw [h, if_pos rfl, nb_look, nb_at, nb_set]; rfl
include hu hb in
theorem t3_is (bit : Int) : t3 first b bit = ⟨up (fun _ => E0 first) true (E2 first b), fun _ => [], nb [NS.turn (bytes (fr first b)) bit]⟩ ∧ (t2 first b).flipOk false 0 = true := by
  unfold t3 PS.flip PS.flipOk
  rw [(t2_is hu hb).1]
  exact ⟨congrArg (fun n => (⟨_, _, n⟩ : PS)) (nb_flip _ bit).1, (nb_flip (fr first b) bit).2⟩
include hu hb in
theorem t4_is (bit : Int) : t4 first b bit = ⟨up (fun _ => E0 first) true (E2 first b), fun _ => [], nb []⟩ ∧ (t3 first b bit).comeB false 0 = false := by
  have hf : (t3 first b bit).frameB false 0 = false := by
    unfold PS.frameB PS.look
    rw [(t3_is hu hb bit).1]
    show (_ && decide ((Frame.why ((nb [NS.turn (bytes (fr first b)) bit]).look 1 0 0).data.toList).2 = 0)) = false
    rw [nb_look, decide_eq_false (turn_why _ bit), Bool.and_false]
  constructor
  · unfold t4 PS.come
    rw [hf]
    unfold PS.lose
    rw [(t3_is hu hb bit).1]
    exact congrArg (fun n => (⟨_, _, n⟩ : PS)) (nb_deliver _)
  · unfold PS.comeB; rw [hf]; rfl
include hu hb in
theorem t5_is (bit : Int) : t5 first b bit = ⟨up (fun _ => E0 first) true (E5 first b), fun _ => [], nb []⟩ := by
  unfold t5 PS.tick
  rw [(t4_is hu hb bit).1]
  simp only [up_same, up_up]
  rfl
include hu hb in
theorem t6_is (bit : Int) : t6 first b bit = ⟨up (fun _ => E0 first) true (E2 first b), fun _ => [], nb [bytes (fr first b)]⟩ ∧ ((t5 first b bit).gone true).2 = 1 := by
  have hg : (t5 first b bit).gone true = (nb [bytes (fr first b)], 1) := by
    unfold PS.gone
    rw [t5_is hu hb]
    show ways 1 0 (nb [], 0) ((up (fun _ => E0 first) true (E5 first b)) true).goes = _
    rw [up_same, (goes_1 hu).2, way_fr hb]
  refine ⟨?_, by rw [hg]⟩
  unfold t6 PS.go
  rw [hg, t5_is hu hb]
  simp only [up_same, up_up, gone_5]
include hu in
theorem fits_fr : Frame.Fits (fr first b) := by
  have h := Link.u_eq first
  rw [hu] at h
  exact ⟨by show 0 ≤ first; omega, by show first < _; omega, by show 0 ≤ first; omega, by show first < _; omega⟩
include hu hb in
theorem t7_is (bit : Int) : (t7 first b bit).g false = [b] ∧ (t7 first b bit).g true = [] ∧ (t6 first b bit).comeS false 0 = b ∧ (t6 first b bit).comeB false 0 = true := by
  have hd : (bytes (fr first b)).data.toList = Frame.put (fr first b) := by unfold bytes; simp
  have hl : (t6 first b bit).look false 0 = bytes (fr first b) := by
    unfold PS.look
    rw [(t6_is hu hb bit).1]
    exact nb_look _
  have hf : (t6 first b bit).frameB false 0 = true := by
    unfold PS.frameB
    rw [hl, hd, Frame.why_put _ (right_fr hb) (fits_fr hu)]
    unfold PS.has
    rw [(t6_is hu hb bit).1]
    show ((nb [bytes (fr first b)]).isAt 1 0 0 && _) = true
    rw [nb_isAt]; rfl
  have hfr : (t6 first b bit).frame false 0 = fr first b := by
    unfold PS.frame
    rw [hl, hd, Frame.get_put _ (right_fr hb) (fits_fr hu)]
  have hn : (E0 first).isNext (fr first b) = true := by
    unfold LE.isNext LE.fits
    rw [right_fr hb]
    simp [fr, E0]
  have he : (t6 first b bit).e false = E0 first := by rw [(t6_is hu hb bit).1]; rfl
  have ht : (E0 first).told (fr first b) = b := by unfold LE.told; rw [hn, if_pos rfl]; rfl
  refine ⟨?_, ?_, ?_, ?_⟩
  · unfold t7 PS.come
    rw [hf, if_pos rfl, hfr]
    unfold PS.take PS.lose
    simp only [he, hn, ht, if_true, up_same]
    rw [(t6_is hu hb bit).1]; rfl
  · unfold t7 PS.come
    rw [hf, if_pos rfl, hfr]
    have h6 : (t6 first b bit).g = fun _ => [] := by rw [(t6_is hu hb bit).1]
    unfold PS.take PS.lose
    simp only [h6]
    rfl
  · unfold PS.comeS; rw [hf, if_pos rfl, hfr, he, ht]
  · unfold PS.comeB; rw [hf, hfr, he, hn]; rfl
end
end Go.Proofs.YtihhflajkohibaaDoor.Pipe
