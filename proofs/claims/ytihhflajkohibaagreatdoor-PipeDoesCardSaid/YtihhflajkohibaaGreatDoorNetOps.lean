/- Layer 8: what the acts on a net do to it in memory. Conditions: the net lies (NetIs). -/
import Derived.Test.YtihhflajkohibaaGreatDoorNet
namespace Go.Proofs.YtihhflajkohibaaGreatDoor.Net
set_option linter.unusedSimpArgs false
set_option linter.unusedVariables false
set_option maxRecDepth 100000
open Go.RowKit
theorem ret_bool {a b : Bool} (h : a = b) : Ending.returned (.bool a) = .returned (.bool b) := by rw [h]
theorem ret_int {k : IntKind} {a b : Int} (h : a = b) : Ending.returned (.int k a) = .returned (.int k b) := by rw [h]
theorem ret_sb {a a' : ByteArray} {b b' : Bool} (h1 : a = a') (h2 : b = b') : Ending.returned (.tuple #[.string a, .bool b]) = .returned (.tuple #[.string a', .bool b']) := by rw [h1, h2]
/-- behind an act: what it answers, and the net -/
def Act1 (w : World) (p : Nat) (F : List Nat) (s : NS) (v : Value) (e : Ending) (w' : World) : Prop := e = .returned v ∧ ∃ F', NetIs w' p F' s ∧ Turns F F' w w'
section
variable {w : World} {p : Nat} {F : List Nat} {s : NS}
theorem Act1.mk' {w w' : World} {v : Value} {F' : List Nat} (h : NetIs w' p F' s) (ht : Turns F F' w w') : Act1 w p F s v (.returned v) w' := ⟨rfl, F', h, ht⟩
theorem At.after {w0 w w' : World} {a b : Int} {P Q : Nat} {F' : List Nat} (h : At w p F' s a b P Q) (ht : Turns F F' w0 w) {xs : List ByteArray} (hx : RingS.Has w' P Q s.m xs) (hk : Kept [P, Q] w w') : NetIs w' p F' (s.set a b xs) ∧ Turns F F' w0 w' :=
  ⟨h.turn w' xs hx hk, ht.trans ⟨hk.mono h.subset, fun _ h => .inl h⟩⟩
theorem isAt_no (h : s.Ok) {a b : Int} (hg : s.good a b = false) (k : Int) : s.isAt a b k = false ∧ s.look a b k = ⟨#[]⟩ ∧ s.f a b = [] := by
  have h0 := h.none_ a b hg
  have h1 : s.isAt a b k = false := by simp [NS.isAt, h0]
  exact ⟨h1, by unfold NS.look; rw [h1]; rfl, h0⟩
theorem look_has (a b k : Int) : RingS.has (s.f a b) k = s.isAt a b k ∧ RingS.got (s.f a b) k = s.look a b k := by
  have h1 : RingS.has (s.f a b) k = s.isAt a b k := rfl
  refine ⟨h1, ?_⟩
  unfold NS.look
  rw [← h1]
  cases hh : RingS.has (s.f a b) k
  · exact RingS.got_no hh
  · unfold RingS.has at hh
    have := of_decide_eq_true hh
    unfold RingS.got
    rw [if_pos this.1]; rfl
set_option maxHeartbeats 1000000 in
theorem send_any (h : NetIs w p F s) (a b : Int) (t : ByteArray) :
    Calls Tryz.prog 40 #[.pointer (some ⟨p, 0, none⟩), .int .i64 a, .int .i64 b, .string t] w (Act1 w p F (s.send a b t) (.bool (s.sendOk a b))) := by
  have H := Lib.hid h
  cases hg : s.good a b
  · have e1 : s.sendOk a b = false := by simp [NS.sendOk, hg]
    have e2 : s.send a b t = s := by unfold NS.send; rw [e1]; rfl
    rw [e1, e2]
    have HG := Lib.hid hg
    clear h e1 e2 hg
    go_enter Tryz.func40, Tryz.ntmps40
    go_wp2_with fail
    refine (row_no H.out a b HG.out).mono ?_
    rintro e w1 ⟨rfl, hb⟩
    have HB := Lib.hid hb
    clear hb
    go_wp2_with fail
    go_ret
    exact Act1.mk' (H.out.after HB.out) (Turns.of_below HB.out _)
  · have e1 : s.sendOk a b = decide ((s.f a b).length < s.m) := by simp [NS.sendOk, hg]
    have e2 : s.set a b (RingS.pushed s.m (s.f a b) t) = s.send a b t := by
      unfold NS.send RingS.pushed
      rw [e1]
      by_cases c : (s.f a b).length < s.m
      · rw [if_pos c, if_pos (by simpa using c)]
      · rw [if_neg c, if_neg (by simpa using c), NS.set_self]
    rw [e1]
    have HG := Lib.hid hg
    have HE2 := Lib.hid e2
    clear h e1 e2 hg
    go_enter Tryz.func40, Tryz.ntmps40
    go_wp2_with fail
    refine (row_yes H.out a b HG.out).mono ?_
    rintro e w1 ⟨P, Q, F', rfl, hat, ht⟩
    have HA := Lib.hid hat
    have HT := Lib.hid ht
    clear hat ht
    go_wp2_with fail
    refine (RingS.push_has HA.out.has t).mono ?_
    rintro e w2 ⟨rfl, hh, hk⟩
    have HN := Lib.hid (HA.out.after HT.out hh hk)
    clear hh hk
    go_wp2_with fail
    go_ret
    exact Act1.mk' (by rw [← HE2.out]; exact HN.out.1) HN.out.2
set_option maxHeartbeats 1000000 in
theorem look_any (h : NetIs w p F s) (a b k : Int) :
    Calls Tryz.prog 59 #[.pointer (some ⟨p, 0, none⟩), .int .i64 a, .int .i64 b, .int .i64 k] w (Act1 w p F s (.tuple #[.string (s.look a b k), .bool (s.isAt a b k)])) := by
  have H := Lib.hid h
  cases hg : s.good a b
  · obtain ⟨e1, e2, _⟩ := isAt_no h.ok hg k
    rw [e1, e2]
    have HG := Lib.hid hg
    clear h e1 e2 hg
    go_enter Tryz.func59, Tryz.ntmps59
    go_wp2_with fail
    refine (row_no H.out a b HG.out).mono ?_
    rintro e w1 ⟨rfl, hb⟩
    have HB := Lib.hid hb
    clear hb
    go_wp2_with fail
    go_ret2
    exact Act1.mk' (H.out.after HB.out) (Turns.of_below HB.out _)
  · obtain ⟨e1, e2⟩ := look_has (s := s) a b k
    rw [← e1, ← e2]
    have HG := Lib.hid hg
    clear h e1 e2 hg
    go_enter Tryz.func59, Tryz.ntmps59
    go_wp2_with fail
    refine (row_yes H.out a b HG.out).mono ?_
    rintro e w1 ⟨P, Q, F', rfl, hat, ht⟩
    have HA := Lib.hid hat
    have HT := Lib.hid ht
    clear hat ht
    go_wp2_with fail
    refine (RingS.at_has HA.out.has k).mono ?_
    rintro e w2 ⟨rfl, n, rfl⟩
    go_wp2_with fail
    go_ret2
    exact Act1.mk' (HA.out.net.drewN n) (HT.out.drewN n)
set_option maxHeartbeats 1000000 in
theorem deliver_any (h : NetIs w p F s) (a b k : Int) :
    Calls Tryz.prog 47 #[.pointer (some ⟨p, 0, none⟩), .int .i64 a, .int .i64 b, .int .i64 k] w (Act1 w p F (s.deliver a b k) (.tuple #[.string (s.look a b k), .bool (s.isAt a b k)])) := by
  have H := Lib.hid h
  cases hg : s.good a b
  · obtain ⟨e1, e2, _⟩ := isAt_no h.ok hg k
    have e3 : s.deliver a b k = s := by unfold NS.deliver; rw [e1]; rfl
    rw [e1, e2, e3]
    have HG := Lib.hid hg
    clear h e1 e2 e3 hg
    go_enter Tryz.func47, Tryz.ntmps47
    go_wp2_with fail
    refine (row_no H.out a b HG.out).mono ?_
    rintro e w1 ⟨rfl, hb⟩
    have HB := Lib.hid hb
    clear hb
    go_wp2_with fail
    go_ret2
    exact Act1.mk' (H.out.after HB.out) (Turns.of_below HB.out _)
  · obtain ⟨e1, e2⟩ := look_has (s := s) a b k
    have e3 : s.set a b (RingS.cutted (s.f a b) k) = s.deliver a b k := by
      unfold NS.deliver RingS.cutted
      rw [← e1]
      by_cases c : RingS.has (s.f a b) k = true
      · rw [if_pos c, if_pos c]
      · rw [if_neg c, if_neg c, NS.set_self]
    rw [← e1, ← e2]
    have HG := Lib.hid hg
    have HE3 := Lib.hid e3
    clear h e1 e2 e3 hg
    go_enter Tryz.func47, Tryz.ntmps47
    go_wp2_with fail
    refine (row_yes H.out a b HG.out).mono ?_
    rintro e w1 ⟨P, Q, F', rfl, hat, ht⟩
    have HA := Lib.hid hat
    have HT := Lib.hid ht
    clear hat ht
    go_wp2_with fail
    refine (RingS.cut_has HA.out.has k).mono ?_
    rintro e w2 ⟨rfl, hh, hk⟩
    have HN := Lib.hid (HA.out.after HT.out hh hk)
    clear hh hk
    go_wp2_with fail
    go_ret2
    exact Act1.mk' (by rw [← HE3.out]; exact HN.out.1) HN.out.2
set_option maxHeartbeats 1000000 in
theorem double_any (h : NetIs w p F s) (a b k : Int) :
    Calls Tryz.prog 53 #[.pointer (some ⟨p, 0, none⟩), .int .i64 a, .int .i64 b, .int .i64 k] w (Act1 w p F (s.double a b k) (.bool (s.doubleOk a b k))) := by
  have H := Lib.hid h
  cases hk : s.isAt a b k
  · have e1 : s.doubleOk a b k = false := by simp [NS.doubleOk, hk]
    have e2 : s.double a b k = s := by unfold NS.double; rw [hk]; rfl
    rw [e1, e2]
    have HK := Lib.hid hk
    clear h e1 e2 hk
    go_enter Tryz.func53, Tryz.ntmps53
    go_wp2_with fail
    refine (look_any H.out a b k).mono ?_
    rintro e w1 ⟨rfl, F1, hn1, ht1⟩
    rw [HK.out]
    have HN := Lib.hid (And.intro hn1 ht1)
    clear hn1 ht1
    go_wp2_with fail
    go_ret
    exact Act1.mk' HN.out.1 HN.out.2
  · have e1 : s.doubleOk a b k = s.sendOk a b := by simp [NS.doubleOk, hk]
    have e2 : s.double a b k = s.send a b (s.look a b k) := by unfold NS.double; rw [hk]; rfl
    rw [e1, e2]
    have HK := Lib.hid hk
    clear h e1 e2 hk
    go_enter Tryz.func53, Tryz.ntmps53
    go_wp2_with fail
    refine (look_any H.out a b k).mono ?_
    rintro e w1 ⟨rfl, F1, hn1, ht1⟩
    rw [HK.out]
    have HN := Lib.hid (And.intro hn1 ht1)
    clear hn1 ht1
    go_wp2_with fail
    refine (send_any HN.out.1 a b (s.look a b k)).mono ?_
    rintro e w2 ⟨rfl, F2, hn2, ht2⟩
    have HN2 := Lib.hid (And.intro hn2 (HN.out.2.trans ht2))
    clear hn2 ht2
    go_wp2_with fail
    go_ret
    exact Act1.mk' HN2.out.1 HN2.out.2
end
end Go.Proofs.YtihhflajkohibaaGreatDoor.Net
