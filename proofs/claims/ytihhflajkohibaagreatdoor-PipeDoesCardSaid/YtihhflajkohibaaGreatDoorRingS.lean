/- Layer 2, things of type string: what each method of a ring does to the ring in memory. Conditions: the ring lies (RingIs), places are integers of 64 bits. -/
import Derived.Test.YtihhflajkohibaaGreatDoorRows
import Derived.Test.YtihhflajkohibaaGreatDoorMem
namespace Go.Proofs.YtihhflajkohibaaGreatDoor.RingS
set_option linter.unusedSimpArgs false
set_option linter.unusedVariables false
set_option maxRecDepth 100000
open Go.RowKit

abbrev mk : ByteArray → Value := Value.string
abbrev Is (w : World) (p q m b : Nat) (C : Array Value) (xs : List ByteArray) : Prop := RingIs mk 146 9 w p q m b C xs

theorem ret_int {k : IntKind} {a b : Int} (h : a = b) : Ending.returned (.int k a) = .returned (.int k b) := by rw [h]
section
variable {w : World} {p q m b : Nat} {C : Array Value} {xs : List ByteArray}

set_option maxHeartbeats 400000 in
theorem slot_any (h : Is w p q m b C xs) (hm : 0 < m) (at0 : Int) (h0 : 0 ≤ at0) (h1 : at0 ≤ 1000) :
    Calls Tryz.prog 85 #[.pointer (some ⟨p, 0, none⟩), .int .i64 at0] w fun e w' => e = .returned (.int .i64 (((b + at0.toNat) % m : Nat) : Int)) ∧ ∃ n, w' = w.drewN n := by
  obtain ⟨i, rfl⟩ := Int.eq_ofNat_of_zero_le h0
  have c0 := h.c0
  have c1 := h.c1
  have hbb : b ≤ 1000 := by have := h.beg; have := h.mle; omega
  have hmm := h.mle
  have hsum : IntKind.i64.wrap ((b : Int) + (i : Int)) = (b : Int) + (i : Int) := IntWalk.i64_in _ (by omega)
  have hm0 : ((m : Int) == 0) = false := beq_eq_false_iff_ne.2 (by omega)
  have hrem : IntKind.i64.wrap (((b : Int) + (i : Int)).tmod (m : Int)) = (((b + i) % m : Nat) : Int) := by
    rw [Int.tmod_eq_emod_of_nonneg (by omega)]
    rw [show ((b : Int) + (i : Int)) % (m : Int) = (((b + i) % m : Nat) : Int) from by simp]
    exact IntWalk.i64_in _ (by have := Nat.mod_lt (b + i) hm; omega)
  clear h0
  go_enter Tryz.func85, Tryz.ntmps85
  go_wp2_with fail
  go_quiet (fail)
  go_wp2
  go_ret
  exact ⟨ret_int (by simp), nq, rfl⟩

set_option maxHeartbeats 400000 in
theorem room_any (h : Is w p q m b C xs) : Calls Tryz.prog 84 #[.pointer (some ⟨p, 0, none⟩)] w fun e w' => e = .returned (.int .i64 ((m : Int) - (xs.length : Int))) ∧ ∃ n, w' = w.drewN n := by
  have c0 := h.c0
  have c2 := h.c2
  have hcap := h.cap
  have hmm := h.mle
  have hsub : IntKind.i64.wrap ((m : Int) - (xs.length : Int)) = (m : Int) - (xs.length : Int) := IntWalk.i64_in _ (by omega)
  go_enter Tryz.func84, Tryz.ntmps84
  go_wp2_with fail
  go_quiet (fail)
  go_wp2
  go_ret
  exact ⟨rfl, nq, rfl⟩

set_option maxHeartbeats 400000 in
theorem at_no (h : Is w p q m b C xs) (at0 : Int) (hi : at0 < 0 ∨ (xs.length : Int) ≤ at0) :
    Calls Tryz.prog 81 #[.pointer (some ⟨p, 0, none⟩), .int .i64 at0] w fun e w' => e = .returned (.tuple #[mk ⟨#[]⟩, .bool false]) ∧ ∃ n, w' = w.drewN n := by
  have c2 := h.c2
  rcases hi with hi | hi
  · have hd : decide (at0 < 0) = true := by simp; omega
    go_enter Tryz.func81, Tryz.ntmps81
    go_wp2
    go_ret2
    exact ⟨rfl, 0, rfl⟩
  · have hd : decide (at0 < 0) = false := by simp; omega
    have hd2 : decide ((xs.length : Int) ≤ at0) = true := by simp; omega
    go_enter Tryz.func81, Tryz.ntmps81
    go_wp2
    go_ret2
    exact ⟨rfl, 0, rfl⟩

set_option maxHeartbeats 400000 in
theorem at_yes (h : Is w p q m b C xs) (i : Nat) (hi : i < xs.length) :
    Calls Tryz.prog 81 #[.pointer (some ⟨p, 0, none⟩), .int .i64 (i : Int)] w fun e w' => e = .returned (.tuple #[mk xs[i], .bool true]) ∧ ∃ n, w' = w.drewN n := by
  have c0 := h.c0
  have c2 := h.c2
  have hcap := h.cap
  have hmm := h.mle
  have hm : 0 < m := by omega
  have cs := h.slot i hi
  have hd : decide ((i : Int) < 0) = false := by simp
  have hd2 : decide ((xs.length : Int) ≤ (i : Int)) = false := by simp; omega
  have i0 : (0 : Int) ≤ (((b + i) % m : Nat) : Int) := by omega
  have hlt := Nat.mod_lt (b + i) hm
  have i1 : (((b + i) % m : Nat) : Int) < (m : Int) := by omega
  have hsl0 := fun n => slot_any (h.drewN n) hm (i : Int) (by omega) (by omega)
  simp only [Int.toNat_natCast] at hsl0
  have hsl := Lib.hid hsl0
  clear hsl0
  generalize (b + i) % m = k at *
  generalize xs[i] = x at *
  clear hlt
  go_enter Tryz.func81, Tryz.ntmps81
  go_wp2_with fail
  go_quiet ((go_at_call 85; exact Calls.quiet_of (hsl.out _)))
  go_wp2
  go_ret2
  exact ⟨rfl, nq, rfl⟩

set_option maxHeartbeats 400000 in
theorem push_no (h : Is w p q m b C xs) (hf : m ≤ xs.length) (x : ByteArray) :
    Calls Tryz.prog 67 #[.pointer (some ⟨p, 0, none⟩), mk x] w fun e w' => e = .returned (.bool false) ∧ ∃ n, w' = w.drewN n := by
  have hcap := h.cap
  have hd : ((m : Int) - (xs.length : Int) == 0) = true := by rw [beq_iff_eq]; omega
  have hr := Lib.hid (room_any h)
  go_enter Tryz.func67, Tryz.ntmps67
  go_wp2_with fail
  refine hr.out.mono ?_
  rintro e w' ⟨rfl, n, rfl⟩
  go_wp2
  go_ret
  exact ⟨rfl, n, rfl⟩

set_option maxHeartbeats 1000000 in
theorem push_yes (h : Is w p q m b C xs) (hf : xs.length < m) (x : ByteArray) :
    Calls Tryz.prog 67 #[.pointer (some ⟨p, 0, none⟩), mk x] w fun e w' => e = .returned (.bool true) ∧ ∃ C', Is w' p q m b C' (xs ++ [x]) ∧ Kept [p, q] w w' := by
  have hmm := h.mle
  have hd : ((m : Int) - (xs.length : Int) == 0) = false := beq_eq_false_iff_ne.2 (by omega)
  have hr := Lib.hid (room_any h)
  have c0 := h.c0
  have c2 := h.c2
  have hfr := h.free 2
  have hm : 0 < m := by omega
  obtain ⟨v, cs⟩ := h.some_slot hm xs.length
  have hfq := h.freeq ((b + xs.length) % m)
  have hne := h.ne
  have hlt := Nat.mod_lt (b + xs.length) hm
  have i0 : (0 : Int) ≤ (((b + xs.length) % m : Nat) : Int) := by omega
  have i1 : (((b + xs.length) % m : Nat) : Int) < (m : Int) := by omega
  have hsl0 := fun W (hW : Is W p q m b C xs) => slot_any hW hm (xs.length : Int) (by omega) (by omega)
  simp only [Int.toNat_natCast] at hsl0
  have hsl := Lib.hid hsl0
  have hpush := Lib.hid (h.push hf x)
  have hkept : Kept [p, q] w ((w.setCell ⟨q, (b + xs.length) % m, none⟩ (mk x)).setCell ⟨p, 2, none⟩ (.int .i64 ((xs.length : Int) + 1))) :=
    ((Kept.refl _ _).setCell (.inl (by simp)) _).setCell (.inl (by simp)) _
  have hK := Lib.hid hkept
  clear hsl0 hkept
  generalize (b + xs.length) % m = k at *
  generalize xs.length = len at *
  clear hlt
  go_enter Tryz.func67, Tryz.ntmps67
  go_wp2_with fail
  refine hr.out.mono ?_
  rintro e w' ⟨rfl, n, rfl⟩
  go_wp2_with fail
  go_region_held3 (fun w' => w'.cell? ⟨p, 0, none⟩ = some (.slice (some ⟨q, 0, none⟩) m m) ∧ w'.cell? ⟨p, 2, none⟩ = some (.int .i64 (len : Int))) (first | exact ⟨c0, c2⟩ | exact ⟨(cell_far hne _).trans c0, (cell_far hne _).trans c2⟩) (first | (go_at_call 85; refine (hsl.out _ (by exact (h.drewN _).drew)).mono ?_; rintro e w' ⟨rfl, n2, rfl⟩))
  go_wp2
  go_ret
  exact ⟨rfl, _, RingIs.heap hpush.out rfl, Kept.heap hK.out rfl rfl rfl rfl⟩

/-- what is told of a place -/
def got (xs : List ByteArray) (i : Int) : ByteArray := if 0 ≤ i then xs.getD i.toNat ⟨#[]⟩ else ⟨#[]⟩
def has (xs : List ByteArray) (i : Int) : Bool := decide (0 ≤ i ∧ i < (xs.length : Int))
theorem got_no {xs : List ByteArray} {i : Int} (h : has xs i = false) : got xs i = ⟨#[]⟩ := by
  unfold has at h; unfold got
  have h := of_decide_eq_false h
  by_cases h0 : 0 ≤ i
  · rw [if_pos h0, List.getD_eq_getElem?_getD, List.getElem?_eq_none (by omega)]; rfl
  · rw [if_neg h0]
theorem at_any (h : Is w p q m b C xs) (i : Int) :
    Calls Tryz.prog 81 #[.pointer (some ⟨p, 0, none⟩), .int .i64 i] w fun e w' => e = .returned (.tuple #[mk (got xs i), .bool (has xs i)]) ∧ ∃ n, w' = w.drewN n := by
  cases hh : has xs i
  · rw [got_no hh]
    unfold has at hh
    have hh := of_decide_eq_false hh
    exact at_no h i (by omega)
  · unfold has at hh
    obtain ⟨h0, h1⟩ := of_decide_eq_true hh
    obtain ⟨k, rfl⟩ := Int.eq_ofNat_of_zero_le h0
    have hk : k < xs.length := by omega
    have := at_yes h k hk
    have e : got xs (k : Int) = xs[k] := by
      unfold got
      rw [if_pos h0, Int.toNat_natCast, List.getD_eq_getElem?_getD, List.getElem?_eq_getElem hk]; rfl
    rw [e]; exact this

set_option maxHeartbeats 1000000 in
theorem pop_no (h : Is w p q m b C xs) (hx : xs = []) :
    Calls Tryz.prog 79 #[.pointer (some ⟨p, 0, none⟩)] w fun e w' => e = .returned (.tuple #[mk ⟨#[]⟩, .bool false]) ∧ ∃ n, w' = w.drewN n := by
  have ha := Lib.hid (at_no h 0 (.inr (by subst hx; simp)))
  go_enter Tryz.func79, Tryz.ntmps79
  go_wp2_with fail
  refine ha.out.mono ?_
  rintro e w' ⟨rfl, n, rfl⟩
  go_wp2
  go_ret2
  exact ⟨rfl, n, rfl⟩
set_option maxHeartbeats 1000000 in
theorem pop_yes (h : Is w p q m b C xs) (x : ByteArray) (r : List ByteArray) (hx : xs = x :: r) :
    Calls Tryz.prog 79 #[.pointer (some ⟨p, 0, none⟩)] w fun e w' => e = .returned (.tuple #[mk x, .bool true]) ∧ ∃ b', Is w' p q m b' C r ∧ Kept [p, q] w w' := by
  have hlen : 0 < xs.length := by subst hx; simp
  have ha0 := at_yes h 0 hlen
  have e0 : xs[0] = x := by subst hx; rfl
  rw [e0] at ha0
  have ha := Lib.hid ha0
  have hmm := h.mle
  have hcap := h.cap
  have hm : 0 < m := by omega
  have c1 := h.c1
  have c2 := h.c2
  have hf1 := h.free 1
  have hf2 := h.free 2
  have hpop := Lib.hid (h.pop x r hx)
  have hkept : Kept [p, q] w ((w.setCell ⟨p, 1, none⟩ (.int .i64 (((b + 1) % m : Nat) : Int))).setCell ⟨p, 2, none⟩ (.int .i64 ((xs.length : Int) - 1))) :=
    ((Kept.refl _ _).setCell (.inl (by simp)) _).setCell (.inl (by simp)) _
  have hK := Lib.hid hkept
  have hsl0 := fun W (hW : Is W p q m b C xs) => slot_any hW hm 1 (by omega) (by omega)
  rw [show (1 : Int).toNat = 1 from rfl] at hsl0
  have hsl := Lib.hid hsl0
  clear hsl0 hkept ha0 e0 hx
  generalize (b + 1) % m = k at *
  generalize xs.length = len at *
  go_enter Tryz.func79, Tryz.ntmps79
  go_wp2_with fail
  refine ha.out.mono ?_
  rintro e w' ⟨rfl, n, rfl⟩
  go_wp2_with fail
  refine (hsl.out _ (h.drewN _)).mono ?_
  rintro e w' ⟨rfl, n2, rfl⟩
  go_wp2
  go_ret2
  exact ⟨rfl, _, RingIs.heap hpop.out rfl, Kept.heap hK.out rfl rfl rfl rfl⟩

/-- things behind a place, each moved one place to the front, so many of them -/
def shift (xs : List ByteArray) (i : Nat) : Nat → List ByteArray
  | 0 => xs
  | k + 1 => (shift xs i k).set (i + k) ((shift xs i k).getD (i + k + 1) ⟨#[]⟩)
theorem shift_length (xs : List ByteArray) (i k : Nat) : (shift xs i k).length = xs.length := by
  induction k with
  | zero => rfl
  | succ k ih => simp [shift, ih]
theorem shift_get (xs : List ByteArray) (i k : Nat) (hk : i + k < xs.length) (j : Nat) :
    (shift xs i k)[j]? = if i ≤ j ∧ j < i + k then xs[j + 1]? else xs[j]? := by
  induction k generalizing j with
  | zero => rw [if_neg (by omega)]; rfl
  | succ k ih =>
    have ih := ih (by omega)
    simp only [shift]
    by_cases e : j = i + k
    · subst e
      rw [List.getElem?_set_self (by rw [shift_length]; omega), if_pos (by omega), List.getD_eq_getElem?_getD, ih, if_neg (by omega), List.getElem?_eq_getElem (by omega)]
      rfl
    · rw [List.getElem?_set_ne (Ne.symm e), ih]
      by_cases c : i ≤ j ∧ j < i + k
      · rw [if_pos c, if_pos (by omega)]
      · rw [if_neg c, if_neg (by omega)]
theorem shift_all (xs : List ByteArray) (i : Nat) (hi : i < xs.length) : (shift xs i (xs.length - 1 - i)).dropLast = xs.eraseIdx i := by
  apply List.ext_getElem?
  intro j
  rw [List.getElem?_eraseIdx, List.getElem?_dropLast, shift_length]
  by_cases hj : j < xs.length - 1
  · rw [if_pos hj, shift_get xs i _ (by omega)]
    by_cases c : j < i
    · rw [if_neg (by omega), if_pos c]
    · rw [if_pos (by omega), if_neg c]
  · rw [if_neg hj]
    by_cases c : j < i
    · omega
    · rw [if_neg c, List.getElem?_eq_none (by omega)]

set_option maxHeartbeats 1000000 in
theorem cut_no (h : Is w p q m b C xs) (at0 : Int) (hi : at0 < 0 ∨ (xs.length : Int) ≤ at0) :
    Calls Tryz.prog 73 #[.pointer (some ⟨p, 0, none⟩), .int .i64 at0] w fun e w' => e = .returned (.tuple #[mk ⟨#[]⟩, .bool false]) ∧ ∃ n, w' = w.drewN n := by
  have ha := Lib.hid (at_no h at0 hi)
  clear hi
  go_enter Tryz.func73, Tryz.ntmps73
  go_wp2_with fail
  refine ha.out.mono ?_
  rintro e w' ⟨rfl, n, rfl⟩
  go_wp2
  go_ret2
  exact ⟨rfl, n, rfl⟩
set_option maxHeartbeats 2000000 in
theorem cut_yes (h : Is w p q m b C xs) (i : Nat) (hi : i < xs.length) :
    Calls Tryz.prog 73 #[.pointer (some ⟨p, 0, none⟩), .int .i64 (i : Int)] w fun e w' => e = .returned (.tuple #[mk xs[i], .bool true]) ∧ ∃ C', Is w' p q m b C' (xs.eraseIdx i) ∧ Kept [p, q] w w' := by
  have ha := Lib.hid (at_yes h i hi)
  have hmm := h.mle
  have hcap := h.cap
  have hm : 0 < m := by omega
  have hne := h.ne
  have hend := Lib.hid (shift_all xs i hi)
  have hlen := fun k => shift_length xs i k
  have HLEN := Lib.hid hlen
  clear hlen
  generalize xs[i] = x at *
  go_enter Tryz.func73, Tryz.ntmps73
  go_wp2_with fail
  refine ha.out.mono ?_
  rintro e w' ⟨rfl, n, rfl⟩
  go_wp2_with fail
  go_loopw [8] (fun j wr => ∃ k C', i + k < xs.length ∧ j = .int .i64 ((i + k : Nat) : Int) ∧ Is wr p q m b C' (shift xs i k) ∧ Kept [p, q] w wr) (fun j _ => xs.length - (intOf j).toNat)
  case atStart => exact ⟨0, C, by omega, by simp, h.drewN n, (Kept.refl _ _).drewN n⟩
  case round =>
    obtain ⟨k, C', hk, rfl, hr, hkr⟩ := hrel
    have c0 := hr.c0
    have c2 := hr.c2
    rw [HLEN.out] at c2
    have hf2 := hr.free 2
    by_cases hlt : i + k + 1 < xs.length
    · have hy0 := hr.slot (i + k + 1) (by rw [HLEN.out]; exact hlt)
      have hset0 := hr.set (i + k) (by rw [HLEN.out]; exact hk) ((shift xs i k).getD (i + k + 1) ⟨#[]⟩)
      have ey : (shift xs i k)[i + k + 1]'(by rw [HLEN.out]; exact hlt) = (shift xs i k).getD (i + k + 1) ⟨#[]⟩ := by
        rw [List.getD_eq_getElem?_getD, List.getElem?_eq_getElem]; rfl
      rw [ey] at hy0
      rw [show (shift xs i k).set (i + k) ((shift xs i k).getD (i + k + 1) ⟨#[]⟩) = shift xs i (k + 1) from rfl] at hset0
      obtain ⟨v1, cs1⟩ := hr.some_slot hm (i + k)
      have hf1 := hr.freeq ((b + (i + k)) % m)
      have h12 := mod_ne (b := b) (i := i + k) (j := i + k + 1) (m := m) (by omega) (by omega) (by omega)
      have hs10 := fun W (hW : Is W p q m b C' (shift xs i k)) => slot_any hW hm ((i + k : Nat) : Int) (by omega) (by omega)
      have hs20 := fun W (hW : Is W p q m b C' (shift xs i k)) => slot_any hW hm (((i + k : Nat) : Int) + 1) (by omega) (by omega)
      rw [show (((i + k : Nat) : Int) + 1).toNat = i + k + 1 from by omega] at hs20
      simp only [Int.toNat_natCast] at hs10
      have hw1 : IntKind.i64.wrap (((i + k : Nat) : Int) + 1) = ((i + k : Nat) : Int) + 1 := IntWalk.i64_in _ (by omega)
      have l1 := Nat.mod_lt (b + (i + k)) hm
      have l2 := Nat.mod_lt (b + (i + k + 1)) hm
      generalize (b + (i + k)) % m = a1 at *
      generalize (b + (i + k + 1)) % m = a2 at *
      generalize (shift xs i k).getD (i + k + 1) ⟨#[]⟩ = y at *
      have i10 : (0 : Int) ≤ (a1 : Int) := by omega
      have i11 : (a1 : Int) < (m : Int) := by omega
      have i20 : (0 : Int) ≤ (a2 : Int) := by omega
      have i21 : (a2 : Int) < (m : Int) := by omega
      have HR := Lib.hid hr
      have HSET := Lib.hid hset0
      have HEY := Lib.hid ey
      have hs1 := Lib.hid hs10
      have hs2 := Lib.hid hs20
      clear l1 l2 ey hset0 hs10 hs20 hr
      have hjj : i + k < xs.length := hk
      have e2 : (((i + k + 1 : Nat) : Int)) = ((i + k : Nat) : Int) + 1 := by omega
      have E2 := Lib.hid e2
      clear e2
      generalize hj : i + k = j at *
      have HJ := Lib.hid hj
      clear hj
      go_wp2_with fail
      go_region_held3 (fun w' => w'.cell? ⟨p, 0, none⟩ = some (.slice (some ⟨q, 0, none⟩) m m) ∧ w'.cell? ⟨q, a2, none⟩ = some (mk y)) (first | exact ⟨c0, hy0⟩ | exact ⟨(cell_far hne _).trans c0, (cell_next h12.symm _).trans hy0⟩) (first | (go_at_call 85; first | ((with_reducible refine (hs1.out _ (by first | exact HR.out.drew | exact HR.out.drew.drewN _ | exact HR.out.drewN _)).mono ?_); rintro e w' ⟨rfl, n2, rfl⟩) | ((with_reducible refine (hs2.out _ (by first | exact HR.out.drew | exact HR.out.drew.drewN _ | exact HR.out.drewN _)).mono ?_); rintro e w' ⟨rfl, n3, rfl⟩)))
      go_wp2
      go_roundw
      case rel => exact ⟨k + 1, _, by have := HJ.out; omega, by rw [← HJ.out]; go_num, RingIs.heap HSET.out rfl, (hkr.setCell (p := ⟨q, a1, none⟩) (.inl (by simp)) _).heap rfl rfl rfl rfl⟩
      case measure => simp [intOf]; omega
    · obtain rfl : k = xs.length - 1 - i := by omega
      have hdl := hr.drop_last (by rw [HLEN.out]; omega)
      rw [HLEN.out, hend.out] at hdl
      have HD := Lib.hid hdl
      have hcast : ((i + (xs.length - 1 - i) : Nat) : Int) + 1 = (xs.length : Int) := by omega
      have hwx : ((i + (xs.length - 1 - i) : Nat) : Int) ≤ 1000 := by omega
      generalize hj : i + (xs.length - 1 - i) = j at *
      clear hj hdl hk
      go_wp2
      go_ret2
      exact ⟨rfl, _, RingIs.heap HD.out rfl, (hkr.setCell (p := ⟨p, 2, none⟩) (.inl (by simp)) _).heap rfl rfl rfl rfl⟩

theorem elem_info : (Tryz.prog.info? 9).map (fun i => (i.zero, i.size, i.bytes)) = some (some (mk ⟨#[]⟩), 1, 16) := by kernel_rfl
theorem all_step (xs : List ByteArray) (k : Nat) (hk : k < xs.length) : (xs.take k).map mk ++ [mk xs[k]] = (xs.take (k + 1)).map mk := by
  rw [List.take_succ_eq_append_getElem hk, List.map_append]; rfl
set_option maxHeartbeats 2000000 in
theorem all_any (h : Is w p q m b C xs) :
    Calls Tryz.prog 78 #[.pointer (some ⟨p, 0, none⟩)] w fun e w' => ∃ v, e = .returned v ∧ w'.ownsRow w.heap.size 9 1 v xs.length (xs.map mk) ∧ Below w.heap.size w w' := by
  obtain ⟨i0, hi0, hz0, hz1, hz2⟩ := info_parts elem_info
  have hmm := h.mle
  have hcap := h.cap
  have c2 := h.c2
  have hpl := h.p_lt
  have hql := h.q_lt
  go_enter Tryz.func78, Tryz.ntmps78
  go_wp2_with fail
  go_loopw [3, 9] (fun v j wr => ∃ k, k ≤ xs.length ∧ j = .int .i64 (k : Int) ∧ wr.ownsRow w.heap.size 9 1 v k ((xs.take k).map mk) ∧ Below w.heap.size w wr) (fun _ j _ => xs.length - (intOf j).toNat)
  case atStart => exact ⟨0, Nat.zero_le _, rfl, ⟨rfl, .inl ⟨rfl, rfl⟩⟩, Below.refl _ _⟩
  case round =>
    obtain ⟨k, hk, rfl, hown, hb⟩ := hrel
    by_cases hlt : k < xs.length
    · have hm : 0 < m := by omega
      have hr := h.below hb hpl hql
      have c0 := hr.c0
      have hy0 := hr.slot k hlt
      have hs10 := fun W (hW : Is W p q m b C xs) => slot_any hW hm (k : Int) (by omega) (by omega)
      simp only [Int.toNat_natCast] at hs10
      have l1 := Nat.mod_lt (b + k) hm
      have hstep := all_step xs k hlt

      generalize (b + k) % m = a1 at *
      generalize xs[k] = y at *
      have i10 : (0 : Int) ≤ (a1 : Int) := by omega
      have i11 : (a1 : Int) < (m : Int) := by omega
      have HR := Lib.hid hr
      have hs1 := Lib.hid hs10
      have HS := Lib.hid hstep
      have hfp := own_far hown hpl
      have hfq := own_far hown hql
      have hbs := hb.size
      have hbase := fun g => own_base (g := g) hown
      have HBASE := Lib.hid hbase
      clear l1 hr hs10 hstep hbase
      go_wp2_with fail
      go_region_held3 (fun w' => w'.cell? ⟨p, 0, none⟩ = some (.slice (some ⟨q, 0, none⟩) m m) ∧ w'.cell? ⟨q, a1, none⟩ = some (mk y)) (first | exact ⟨c0, hy0⟩ | exact ⟨(World.cell?_alloc_lt _ _ _ (by exact HR.out.p_lt)).trans c0, (World.cell?_alloc_lt _ _ _ (by exact HR.out.q_lt)).trans hy0⟩ | exact ⟨((hgrow.cell_far _ (by exact Nat.lt_of_lt_of_le HR.out.p_lt (by simp)) (Ne.symm hfp)).trans (World.cell?_alloc_lt _ _ _ (by exact HR.out.p_lt))).trans c0, ((hgrow.cell_far _ (by exact Nat.lt_of_lt_of_le HR.out.q_lt (by simp)) (Ne.symm hfq)).trans (World.cell?_alloc_lt _ _ _ (by exact HR.out.q_lt))).trans hy0⟩) (first | (go_at_call 85; ((refine (hs1.out _ (by first | exact HR.out.drew | exact HR.out.drew.drewN _ | exact HR.out.drewN _)).mono ?_); rintro e w' ⟨rfl, n2, rfl⟩)) | (refine step_append_lies _ (by rfl) _ _ _ (by rfl) w.heap.size 9 i0 _ 1 16 Tryz.underlying28 hi0 hz0 hz1 hz2 rfl (by omega) u3 k _ (by rfl) (by exact hown.alloc _) ⟨wr.heap.size, 0, none⟩ 1 1 [mk y] (by rfl) (by rfl) (World.news_of_block (cs := #[mk y]) (t := 9) (fr := (0, 0)) (heap_alloc_new _ _)) (by simp [Value.oneCell']) (by omega) (by unfold maxLen; omega) (by omega) (by simp; omega) (wr.heap.size + 1) (by simp) ?_; intro g cap w1 hown1 hgrow hat hlt2))
      go_wp2
      go_roundw
      case rel => exact ⟨k + 1, hlt, by go_num, by rw [← HS.out]; exact hown1, ((below_drewN hb _).alloc (by exact hbs) _).grown hgrow (by simp; omega) HBASE.out⟩
      case measure => simp [intOf]; omega
    · obtain rfl : k = xs.length := by omega
      go_wp2_with fail
      go_ret
      exact ⟨_, rfl, by simpa using hown, hb⟩

/-- how many things a ring has room for -/
def clamp (r : Int) : Nat := (min (max r 0) 1000).toNat
theorem make_any (n : Nat) (hn : n ≤ 1000) (w : World) :
    (Instr.makeSlice 28 (.int .i64 (n : Int)) (.int .i64 (n : Int))).run Tryz.prog w = .ok (.slice (some ⟨w.heap.size, 0, none⟩) n n) (w.alloc (.cells (madeCells #[mk ⟨#[]⟩] n) 9)) := by
  obtain ⟨i0, hi0, hz0, hz1, hz2⟩ := info_parts elem_info
  have hr := run_make (P := Tryz.prog) w 28 9 i0 _ Tryz.underlying28 hi0 hz0 .i64 .i64 n n (by omega) (by omega) (by rw [hz2]; omega) (by omega)
  simp only [Int.toNat_natCast, hz1, Nat.mul_one] at hr
  exact hr
theorem make_at (N : Int) (n : Nat) (hN : N = (n : Int)) (hn : n ≤ 1000) (w : World) :
    ∃ O, (Instr.makeSlice 28 (.int .i64 N) (.int .i64 N)).run Tryz.prog w = .ok (.slice (some ⟨w.heap.size, 0, none⟩) n n) (w.alloc O) ∧ O = .cells (madeCells #[mk ⟨#[]⟩] n) 9 := by
  subst hN
  exact ⟨_, make_any n hn w, rfl⟩
theorem made_is (n : Nat) (hn : n ≤ 1000) (w : World) (O : Obj) (hO : O = .cells (madeCells #[mk ⟨#[]⟩] n) 9) :
    ∃ C, Is ((w.alloc O).alloc (.cells #[.slice (some ⟨w.heap.size, 0, none⟩) n n, .int .i64 0, .int .i64 0] 146)) (w.heap.size + 1) w.heap.size n 0 C [] := by
  subst hO
  refine ⟨madeCells #[mk ⟨#[]⟩] n, ?_, ?_, by simp [madeCells], by omega, by simp, by omega, fun i h => by simp at h, hn⟩
  · have := heap_alloc_new (w.alloc (.cells (madeCells #[mk ⟨#[]⟩] n) 9)) (.cells #[.slice (some ⟨w.heap.size, 0, none⟩) n n, .int .i64 0, .int .i64 0] 146)
    simpa using this
  · rw [Below.heap_alloc _ _ _ (by simp)]
    exact heap_alloc_new w _
set_option maxHeartbeats 1000000 in
theorem new_any (r : Int) (w : World) :
    Calls Tryz.prog 83 #[.int .i64 r] w fun e w' => ∃ C, e = .returned (.pointer (some ⟨w.heap.size + 1, 0, none⟩)) ∧ Is w' (w.heap.size + 1) w.heap.size (clamp r) 0 C [] ∧ Below w.heap.size w w' := by
  have hcase : (r < 0 ∧ clamp r = 0) ∨ (1000 < r ∧ clamp r = 1000) ∨ (0 ≤ r ∧ r ≤ 1000 ∧ r = (clamp r : Int)) := by unfold clamp; omega
  have hfin : ∀ n O, n ≤ 1000 → O = .cells (madeCells #[mk ⟨#[]⟩] n) 9 → clamp r = n → ∃ C, Is ((w.alloc O).alloc (.cells #[.slice (some ⟨w.heap.size, 0, none⟩) n n, .int .i64 0, .int .i64 0] 146)) (w.heap.size + 1) w.heap.size (clamp r) 0 C [] := by
    intro n O hn hO hc; rw [hc]; exact made_is n hn w O hO
  have HF := Lib.hid hfin
  clear hfin
  rcases hcase with ⟨h1, hc⟩ | ⟨h1, hc⟩ | ⟨h1, h2, hc⟩
  · obtain ⟨O, hm, hO⟩ := make_at 0 0 rfl (by omega) w
    have HO := Lib.hid hO
    have HC := Lib.hid hc
    clear hO hc
    go_enter Tryz.func83, Tryz.ntmps83
    go_wp2
    go_ret
    obtain ⟨C, hC⟩ := HF.out 0 O (by omega) HO.out HC.out
    exact ⟨C, rfl, hC, ((Below.refl _ _).alloc (Nat.le_refl _) _).alloc (by simp) _⟩
  · obtain ⟨O, hm, hO⟩ := make_at 1000 1000 rfl (by omega) w
    have HO := Lib.hid hO
    have HC := Lib.hid hc
    clear hO hc
    go_enter Tryz.func83, Tryz.ntmps83
    go_wp2
    go_ret
    obtain ⟨C, hC⟩ := HF.out 1000 O (by omega) HO.out HC.out
    exact ⟨C, rfl, hC, ((Below.refl _ _).alloc (Nat.le_refl _) _).alloc (by simp) _⟩
  · obtain ⟨O, hm, hO⟩ := make_at r (clamp r) hc (by omega) w
    have HO := Lib.hid hO
    have hle : clamp r ≤ 1000 := by omega
    clear hO hc
    go_enter Tryz.func83, Tryz.ntmps83
    go_wp2
    go_ret
    obtain ⟨C, hC⟩ := HF.out (clamp r) O hle HO.out rfl
    exact ⟨C, rfl, hC, ((Below.refl _ _).alloc (Nat.le_refl _) _).alloc (by simp) _⟩

/-! the ring, wherever it begins -/
def Has (w : World) (p q m : Nat) (xs : List ByteArray) : Prop := ∃ b C, Is w p q m b C xs
def pushed (m : Nat) (xs : List ByteArray) (x : ByteArray) : List ByteArray := if xs.length < m then xs ++ [x] else xs
def cutted (xs : List ByteArray) (i : Int) : List ByteArray := if has xs i then xs.eraseIdx i.toNat else xs
theorem Has.cap {w : World} {p q m : Nat} {xs : List ByteArray} (h : Has w p q m xs) : xs.length ≤ m := by obtain ⟨b, C, h⟩ := h; exact h.cap
theorem Has.mle {w : World} {p q m : Nat} {xs : List ByteArray} (h : Has w p q m xs) : m ≤ 1000 := by obtain ⟨b, C, h⟩ := h; exact h.mle
theorem Has.p_lt {w : World} {p q m : Nat} {xs : List ByteArray} (h : Has w p q m xs) : p < w.heap.size := by obtain ⟨b, C, h⟩ := h; exact h.p_lt
theorem Has.q_lt {w : World} {p q m : Nat} {xs : List ByteArray} (h : Has w p q m xs) : q < w.heap.size := by obtain ⟨b, C, h⟩ := h; exact h.q_lt
theorem Has.kept {w w' : World} {p q m : Nat} {xs : List ByteArray} {L : List Nat} (h : Has w p q m xs) (hk : Kept L w w') (hp : p ∉ L) (hq : q ∉ L) : Has w' p q m xs := by
  obtain ⟨b, C, h⟩ := h; exact ⟨b, C, h.kept hk hp hq⟩
theorem Has.below {w w' : World} {p q m B : Nat} {xs : List ByteArray} (h : Has w p q m xs) (hk : Below B w w') (hp : p < B) (hq : q < B) : Has w' p q m xs := by
  obtain ⟨b, C, h⟩ := h; exact ⟨b, C, h.below hk hp hq⟩
theorem Has.drewN {w : World} {p q m : Nat} {xs : List ByteArray} (h : Has w p q m xs) (n : Nat) : Has (w.drewN n) p q m xs := by
  obtain ⟨b, C, h⟩ := h; exact ⟨b, C, h.drewN n⟩
section
variable {w : World} {p q m : Nat} {xs : List ByteArray}
theorem new_has (r : Int) (w : World) :
    Calls Tryz.prog 83 #[.int .i64 r] w fun e w' => e = .returned (.pointer (some ⟨w.heap.size + 1, 0, none⟩)) ∧ Has w' (w.heap.size + 1) w.heap.size (clamp r) [] ∧ Below w.heap.size w w' :=
  (new_any r w).mono fun _ _ ⟨C, he, hi, hb⟩ => ⟨he, ⟨0, C, hi⟩, hb⟩
theorem room_has (h : Has w p q m xs) : Calls Tryz.prog 84 #[.pointer (some ⟨p, 0, none⟩)] w fun e w' => e = .returned (.int .i64 ((m : Int) - (xs.length : Int))) ∧ ∃ n, w' = w.drewN n := by
  obtain ⟨b, C, h⟩ := h; exact room_any h
theorem at_has (h : Has w p q m xs) (i : Int) :
    Calls Tryz.prog 81 #[.pointer (some ⟨p, 0, none⟩), .int .i64 i] w fun e w' => e = .returned (.tuple #[mk (got xs i), .bool (has xs i)]) ∧ ∃ n, w' = w.drewN n := by
  obtain ⟨b, C, h⟩ := h; exact at_any h i
theorem push_has (h : Has w p q m xs) (x : ByteArray) :
    Calls Tryz.prog 67 #[.pointer (some ⟨p, 0, none⟩), mk x] w fun e w' => e = .returned (.bool (decide (xs.length < m))) ∧ Has w' p q m (pushed m xs x) ∧ Kept [p, q] w w' := by
  obtain ⟨b, C, h⟩ := h
  unfold pushed
  by_cases hf : xs.length < m
  · rw [decide_eq_true hf, if_pos hf]
    exact (push_yes h hf x).mono fun _ _ ⟨he, C', hi, hk⟩ => ⟨he, ⟨b, C', hi⟩, hk⟩
  · rw [decide_eq_false hf, if_neg hf]
    exact (push_no h (by omega) x).mono fun _ _ ⟨he, n, hn⟩ => ⟨he, by subst hn; exact ⟨b, C, h.drewN n⟩, by subst hn; exact (Kept.refl _ _).drewN n⟩
theorem pop_has (h : Has w p q m xs) :
    Calls Tryz.prog 79 #[.pointer (some ⟨p, 0, none⟩)] w fun e w' => e = .returned (.tuple #[mk (xs.headD ⟨#[]⟩), .bool (!xs.isEmpty)]) ∧ Has w' p q m xs.tail ∧ Kept [p, q] w w' := by
  obtain ⟨b, C, h⟩ := h
  cases hx : xs with
  | nil =>
    exact (pop_no h hx).mono fun _ _ ⟨he, n, hn⟩ => ⟨he, by subst hn; subst hx; exact ⟨b, C, h.drewN n⟩, by subst hn; exact (Kept.refl _ _).drewN n⟩
  | cons x r =>
    exact (pop_yes h x r hx).mono fun _ _ ⟨he, b', hi, hk⟩ => ⟨he, ⟨b', C, hi⟩, hk⟩
theorem all_has (h : Has w p q m xs) :
    Calls Tryz.prog 78 #[.pointer (some ⟨p, 0, none⟩)] w fun e w' => ∃ v, e = .returned v ∧ w'.ownsRow w.heap.size 9 1 v xs.length (xs.map mk) ∧ Below w.heap.size w w' := by
  obtain ⟨b, C, h⟩ := h; exact all_any h
theorem cut_has (h : Has w p q m xs) (i : Int) :
    Calls Tryz.prog 73 #[.pointer (some ⟨p, 0, none⟩), .int .i64 i] w fun e w' => e = .returned (.tuple #[mk (got xs i), .bool (has xs i)]) ∧ Has w' p q m (cutted xs i) ∧ Kept [p, q] w w' := by
  obtain ⟨b, C, h⟩ := h
  unfold cutted
  cases hh : has xs i
  · rw [got_no hh, if_neg (by simp)]
    unfold has at hh
    have hh := of_decide_eq_false hh
    exact (cut_no h i (by omega)).mono fun _ _ ⟨he, n, hn⟩ => ⟨he, by subst hn; exact ⟨b, C, h.drewN n⟩, by subst hn; exact (Kept.refl _ _).drewN n⟩
  · rw [if_pos rfl]
    unfold has at hh
    obtain ⟨h0, h1⟩ := of_decide_eq_true hh
    obtain ⟨k, rfl⟩ := Int.eq_ofNat_of_zero_le h0
    have hk : k < xs.length := by omega
    have e : got xs (k : Int) = xs[k] := by
      unfold got
      rw [if_pos h0, Int.toNat_natCast, List.getD_eq_getElem?_getD, List.getElem?_eq_getElem hk]; rfl
    rw [e, Int.toNat_natCast]
    exact (cut_yes h k hk).mono fun _ _ ⟨he, C', hi, hk⟩ => ⟨he, ⟨b, C', hi⟩, hk⟩
end
end
end Go.Proofs.YtihhflajkohibaaGreatDoor.RingS
