/- Layer 8: what is done, as it comes in: acts opened; few; act. Conditions: the reading of the argument; the net lies (NetIs). -/
import Derived.Test.YtndiclkfincbgaaOpenAny
import Derived.Test.YtndiclkfincbgaaNetAwake
namespace Go.Proofs.Ytndiclkfincbgaa.Net
set_option linter.unusedSimpArgs false
set_option linter.unusedVariables false
open Go.ChangeShapes Go.WideShapes Go.ChangeAt Go.RowKit Go.Deep
/-- an act -/
structure Act8 where
  K : Int
  A : Int
  B : Int
  N : Int
  X : Int
  S : ByteArray
def Act8.cells (a : Act8) : List Value := [.int .i64 a.K, .int .i64 a.A, .int .i64 a.B, .int .i64 a.N, .int .i64 a.X, .string a.S]
def Act8.Good (a : Act8) : Prop := a.S.size ≤ maxLen ∧ -9223372036854775808 ≤ a.X ∧ a.X ≤ 9223372036854775807
theorem list6 {l : List Value} (h : l.length = 6) : ∃ a b c d e f, l = [a, b, c, d, e, f] := by
  match l, h with
  | [a, b, c, d, e, f], _ => exact ⟨a, b, c, d, e, f, rfl⟩
section
variable {H : Type} {enc : TypeId × Value → H} {w : World} {base : Nat} {spare : Nat → Bool} {held : Bool}
theorem act_of {fuel : Nat} {cs : List Value} {y : DataW H × List MemPlace} (h : DataW.trod enc Try.prog w base spare held fuel 32 cs = some y) : ∃ a : Act8, cs = a.cells ∧ a.Good := by
  obtain ⟨xs, n, _, _, hl, hxl, hf⟩ := DataW.trod_struct Try.underlying32 h
  obtain ⟨c0, c1, c2, c3, c4, c5, rfl⟩ := list6 (hl.trans (by kernel_rfl))
  have ci : Try.prog.cellsOf 3 = 1 := by kernel_rfl
  have cs : Try.prog.cellsOf 9 = 1 := by kernel_rfl
  have h0 : DataW.trod enc Try.prog w base spare held n 3 (([c0, c1, c2, c3, c4, c5].drop 0).take (Try.prog.cellsOf 3)) = xs[0]? := hf 0 _ rfl
  have h1 : DataW.trod enc Try.prog w base spare held n 3 (([c0, c1, c2, c3, c4, c5].drop 1).take (Try.prog.cellsOf 3)) = xs[1]? := hf 1 _ rfl
  have h2 : DataW.trod enc Try.prog w base spare held n 3 (([c0, c1, c2, c3, c4, c5].drop 2).take (Try.prog.cellsOf 3)) = xs[2]? := hf 2 _ rfl
  have h3 : DataW.trod enc Try.prog w base spare held n 3 (([c0, c1, c2, c3, c4, c5].drop 3).take (Try.prog.cellsOf 3)) = xs[3]? := hf 3 _ rfl
  have h4 : DataW.trod enc Try.prog w base spare held n 3 (([c0, c1, c2, c3, c4, c5].drop 4).take (Try.prog.cellsOf 3)) = xs[4]? := hf 4 _ rfl
  have h5 : DataW.trod enc Try.prog w base spare held n 9 (([c0, c1, c2, c3, c4, c5].drop 5).take (Try.prog.cellsOf 9)) = xs[5]? := hf 5 _ rfl
  rw [ci] at h0 h1 h2 h3 h4
  rw [cs] at h5
  have e : ∀ i, i < 6 → ∃ z, xs[i]? = some z := fun i hi => ⟨_, List.getElem?_eq_getElem (by rw [hxl]; exact hi)⟩
  obtain ⟨z0, e0⟩ := e 0 (by omega)
  obtain ⟨z1, e1⟩ := e 1 (by omega)
  obtain ⟨z2, e2⟩ := e 2 (by omega)
  obtain ⟨z3, e3⟩ := e 3 (by omega)
  obtain ⟨z4, e4⟩ := e 4 (by omega)
  obtain ⟨z5, e5⟩ := e 5 (by omega)
  obtain ⟨k, hk, _⟩ := DataW.trod_int Try.underlying3 (h0.trans e0)
  obtain ⟨a, ha, _⟩ := DataW.trod_int Try.underlying3 (h1.trans e1)
  obtain ⟨b, hb, _⟩ := DataW.trod_int Try.underlying3 (h2.trans e2)
  obtain ⟨m, hm, _⟩ := DataW.trod_int Try.underlying3 (h3.trans e3)
  obtain ⟨x, hx, _, wx⟩ := DataW.trod_int Try.underlying3 (h4.trans e4)
  obtain ⟨t, ht, _, wt⟩ := DataW.trod_string Try.underlying9 (h5.trans e5)
  simp at hk ha hb hm hx ht
  subst hk; subst ha; subst hb; subst hm; subst hx; subst ht
  simp [Lit.wf, IntKind.min, IntKind.max, IntKind.bits, IntKind.signed] at wx
  exact ⟨⟨k, a, b, m, x, t⟩, rfl, wt, by show _ ≤ x; omega, by show x ≤ _; omega⟩
end
/-- where an act of the row lies -/
structure ActAt (w : World) (g o : Nat) (a : Act8) : Prop where
  c0 : w.cell? ⟨g, o, none⟩ = some (.int .i64 a.K)
  c1 : w.cell? ⟨g, o + 1, none⟩ = some (.int .i64 a.A)
  c2 : w.cell? ⟨g, o + 2, none⟩ = some (.int .i64 a.B)
  c3 : w.cell? ⟨g, o + 3, none⟩ = some (.int .i64 a.N)
  c4 : w.cell? ⟨g, o + 4, none⟩ = some (.int .i64 a.X)
  c5 : w.cell? ⟨g, o + 5, none⟩ = some (.string a.S)
theorem acts_at {w : World} {lo hi : Nat} {A : Option Addr} {l : List Act8} (h : Sl w lo hi 6 A l.length (l.flatMap Act8.cells)) {k : Nat} (hk : k < l.length) : ∃ g o, A = some ⟨g, o, none⟩ ∧ lo ≤ g ∧ g < hi ∧ ActAt w g (o + k * 6) l[k] := by
  obtain ⟨g, o, e, h1, h2, hc⟩ := h.2 (by omega)
  have hat : ∀ r u, r < 6 → (l[k].cells)[r]? = some u → w.cell? ⟨g, o + (k * 6 + r), none⟩ = some u := fun r u hr hu => hc _ u (by
    rw [flat_get (size := 6) (fun _ => rfl) l k r hr, List.getElem?_eq_getElem hk]; exact hu)
  refine ⟨g, o, e, h1, h2, hat 0 _ (by omega) rfl, ?_, ?_, ?_, ?_, ?_⟩
  · rw [Nat.add_assoc]; exact hat 1 _ (by omega) rfl
  · rw [Nat.add_assoc]; exact hat 2 _ (by omega) rfl
  · rw [Nat.add_assoc]; exact hat 3 _ (by omega) rfl
  · rw [Nat.add_assoc]; exact hat 4 _ (by omega) rfl
  · rw [Nat.add_assoc]; exact hat 5 _ (by omega) rfl
def Short (l : List Act8) : Prop := ∀ a ∈ l, a.S.size ≤ 40
def FewSaid (l : List Act8) (e : Ending) : Prop := ∃ b : Bool, e = .returned (.bool b) ∧ (b = true → l.length ≤ 60 ∧ Short l)
set_option maxHeartbeats 2000000 in
theorem few_any {w : World} {lo hi : Nat} {A : Option Addr} {c : Nat} {l : List Act8} (hA : Sl w lo hi 6 A l.length (l.flatMap Act8.cells)) (hy : l.length ≤ maxLen) :
    Calls Try.prog 11 #[.slice A l.length c] w fun e w' => FewSaid l e ∧ w = w' := by
  unfold maxLen at hy
  go_enter Try.func11, Try.ntmps11
  go_wp2_with fail
  go_loop [3] (fun i => ∃ k : Nat, k ≤ l.length ∧ k ≤ 61 ∧ i = .int .i64 (k : Int) ∧ Short (l.take k)) (fun i => 61 - (intOf i).toNat)
  case atStart => exact ⟨0, Nat.zero_le _, by omega, rfl, by simp [Short]⟩
  case round =>
    obtain ⟨k, hk, hk81, rfl, hs⟩ := hrel
    have HS := Lib.hid hs
    clear hs
    by_cases hlt : k < l.length
    · have d1 : decide (k < l.length) = true := by simpa using hlt
      by_cases h81 : k < 61
      · have d2 : decide ((k : Int) < 61) = true := by simp; omega
        obtain ⟨g, o, rfl, _, _, hat⟩ := acts_at hA hlt
        have c5 := hat.c5
        have i0 : (0 : Int) ≤ (k : Int) := by omega
        have i1 : (k : Int) < (l.length : Int) := by omega
        have hstep : l[k].S.size ≤ 40 → Short (l.take (k + 1)) := by
          intro p1 a ha
          rw [List.take_succ_eq_append_getElem hlt] at ha
          rcases List.mem_append.1 ha with ha | ha
          · exact HS.out a ha
          · simp at ha; subst ha; exact p1
        have HST := Lib.hid hstep
        clear hat hstep
        generalize l[k].S = s at *
        by_cases p1 : s.size ≤ 40
        · have d3 : decide (40 < (s.size : Int)) = false := by simp; omega
          have hn := HST.out p1
          have HN := Lib.hid hn
          clear hn
          go_wp2_with fail
          go_round
          case rel => exact ⟨k + 1, by omega, by omega, by go_num, HN.out⟩
          case measure => simp [intOf]; omega
        · have d3 : decide (40 < (s.size : Int)) = true := by simp; omega
          go_wp2_with fail
          go_ret
          exact ⟨⟨false, rfl, by simp⟩, rfl⟩
      · have d2 : decide ((k : Int) < 61) = false := by simp; omega
        have d3 : decide ((l.length : Int) ≤ 60) = false := by simp; omega
        go_wp2_with fail
        go_ret
        exact ⟨⟨false, rfl, by simp⟩, rfl⟩
    · obtain rfl : k = l.length := by omega
      have hs := HS.out
      rw [List.take_length] at hs
      have HS2 := Lib.hid hs
      clear hs
      have d1 : decide (l.length < l.length) = false := by simp
      by_cases h80 : l.length ≤ 60
      · have d3 : decide ((l.length : Int) ≤ 60) = true := by simp; omega
        go_wp2_with fail
        go_ret
        exact ⟨⟨true, rfl, fun _ => ⟨h80, HS2.out⟩⟩, rfl⟩
      · have d3 : decide ((l.length : Int) ≤ 60) = false := by simp; omega
        go_wp2_with fail
        go_ret
        exact ⟨⟨false, rfl, by simp⟩, rfl⟩
/-- an act on plain data: the net, what it answers -/
def NS.act (s : NS) (a : Act8) : NS := if a.K = 0 then s.send a.A a.B a.S else if a.K = 1 then s.deliver a.A a.B a.N else if a.K = 2 then s.double a.A a.B a.N else s.flip a.A a.B a.N a.X
def NS.actS (s : NS) (a : Act8) : ByteArray := if a.K = 1 then s.look a.A a.B a.N else ⟨#[]⟩
def NS.actOk (s : NS) (a : Act8) : Bool := if a.K = 0 then s.sendOk a.A a.B else if a.K = 1 then s.isAt a.A a.B a.N else if a.K = 2 then s.doubleOk a.A a.B a.N else s.flipOk a.A a.B a.N
theorem flip_any {w : World} {p : Nat} {F : List Nat} {s : NS} (h : NetIs w p F s) (a b k bit : Int) (hbig : (s.look a b k).size ≤ 1000000) :
    Calls Try.prog 25 #[.pointer (some ⟨p, 0, none⟩), .int .i64 a, .int .i64 b, .int .i64 k, .int .i64 bit] w (Act1 w p F (s.flip a b k bit) (.bool (s.flipOk a b k))) := by
  cases hf : s.flipOk a b k
  · have e : s.flip a b k bit = s := by unfold NS.flip; rw [hf]; rfl
    rw [e]; exact flip_no h a b k bit hf
  · exact flip_yes h a b k bit hf hbig
/-- no text is longer than 40 bytes -/
def NS.Small (s : NS) : Prop := ∀ a b t, t ∈ s.f a b → t.size ≤ 40
theorem NS.Small.look {s : NS} (h : s.Small) (a b k : Int) : (s.look a b k).size ≤ 40 := by
  unfold NS.look
  cases hk : s.isAt a b k
  · rw [if_neg (by simp)]; exact Nat.zero_le 40
  · rw [if_pos rfl]
    simp only [NS.isAt, decide_eq_true_eq] at hk
    rw [List.getD_eq_getElem?_getD, List.getElem?_eq_getElem (by omega)]
    exact h a b _ (List.getElem_mem _)
theorem NS.Small.set {s : NS} (h : s.Small) (a b : Int) {l : List ByteArray} (hl : ∀ t ∈ l, t.size ≤ 40) : (s.set a b l).Small := by
  intro x y t ht
  by_cases c : x = a ∧ y = b
  · obtain ⟨rfl, rfl⟩ := c; rw [NS.set_same] at ht; exact hl t ht
  · rw [NS.set_other _ _ _ _ _ _ c] at ht; exact h x y t ht
theorem turn_size (t : ByteArray) (bit : Int) : (NS.turn t bit).size = t.size := by
  show (Array.setIfInBounds _ _ _).size = t.data.size
  rw [Array.size_setIfInBounds]
theorem NS.Small.send {s : NS} (h : s.Small) (a b : Int) {t : ByteArray} (ht : t.size ≤ 40) : (s.send a b t).Small := by
  unfold NS.send
  split
  · refine h.set a b fun u hu => ?_
    rcases List.mem_append.1 hu with hu | hu
    · exact h a b u hu
    · simp at hu; subst hu; exact ht
  · exact h
theorem NS.Small.act {s : NS} (h : s.Small) (a : Act8) (ha : a.S.size ≤ 40) : (s.act a).Small := by
  unfold NS.act
  split
  · exact h.send _ _ ha
  · split
    · unfold NS.deliver
      split
      · exact h.set _ _ fun u hu => h _ _ u (List.mem_of_mem_eraseIdx hu)
      · exact h
    · split
      · unfold NS.double
        split
        · exact h.send _ _ (h.look _ _ _)
        · exact h
      · unfold NS.flip
        split
        · refine h.set _ _ fun u hu => ?_
          rcases List.mem_or_eq_of_mem_set hu with hu | rfl
          · exact h _ _ u hu
          · rw [turn_size]; exact h.look _ _ _
        · exact h
set_option maxHeartbeats 4000000 in
theorem act_any {w : World} {p : Nat} {F : List Nat} {s : NS} (h : NetIs w p F s) (hs : s.Small) (a : Act8) :
    Calls Try.prog 13 #[.pointer (some ⟨p, 0, none⟩), .agg #[.int .i64 a.K, .int .i64 a.A, .int .i64 a.B, .int .i64 a.N, .int .i64 a.X, .string a.S]] w (Act1 w p F (s.act a) (.tuple #[.string (s.actS a), .bool (s.actOk a)])) := by
  have hb0 : Below w.heap.size w (w.alloc (.cells #[.int .i64 a.K, .int .i64 a.A, .int .i64 a.B, .int .i64 a.N, .int .i64 a.X, .string a.S] 32)) := (Below.refl _ _).alloc (Nat.le_refl _) _
  have H := Lib.hid (h.after hb0)
  have HB := Lib.hid hb0
  have HSM := Lib.hid hs
  clear hb0 h hs
  obtain ⟨K, A, B, N, X, S⟩ := a
  by_cases h0 : K = 0
  · subst h0
    go_enter Try.func13, Try.ntmps13
    go_wp2_with fail
    refine (send_any H.out A B S).mono ?_
    rintro e w1 ⟨rfl, F1, hn, ht⟩
    have HN := Lib.hid (And.intro hn ((Turns.of_below HB.out F).trans ht))
    clear hn ht
    go_wp2_with fail
    go_ret2
    exact Act1.mk' HN.out.1 HN.out.2
  · have q0 : (K == 0) = false := beq_eq_false_iff_ne.2 h0
    by_cases h1 : K = 1
    · subst h1
      go_enter Try.func13, Try.ntmps13
      go_wp2_with fail
      refine (deliver_any H.out A B N).mono ?_
      rintro e w1 ⟨rfl, F1, hn, ht⟩
      have HN := Lib.hid (And.intro hn ((Turns.of_below HB.out F).trans ht))
      clear hn ht
      go_wp2_with fail
      go_ret2
      exact Act1.mk' HN.out.1 HN.out.2
    · have q1 : (K == 1) = false := beq_eq_false_iff_ne.2 h1
      by_cases h2 : K = 2
      · subst h2
        go_enter Try.func13, Try.ntmps13
        go_wp2_with fail
        refine (double_any H.out A B N).mono ?_
        rintro e w1 ⟨rfl, F1, hn, ht⟩
        have HN := Lib.hid (And.intro hn ((Turns.of_below HB.out F).trans ht))
        clear hn ht
        go_wp2_with fail
        go_ret2
        exact Act1.mk' HN.out.1 HN.out.2
      · have q2 : (K == 2) = false := beq_eq_false_iff_ne.2 h2
        have e1 : s.act ⟨K, A, B, N, X, S⟩ = s.flip A B N X := by simp only [NS.act]; rw [if_neg h0, if_neg h1, if_neg h2]
        have e2 : s.actOk ⟨K, A, B, N, X, S⟩ = s.flipOk A B N := by simp only [NS.actOk]; rw [if_neg h0, if_neg h1, if_neg h2]
        have e3 : s.actS ⟨K, A, B, N, X, S⟩ = ⟨#[]⟩ := by simp only [NS.actS]; rw [if_neg h1]
        rw [e1, e2, e3]
        clear e1 e2 e3 h0 h1 h2
        go_enter Try.func13, Try.ntmps13
        go_wp2_with fail
        refine (flip_any H.out A B N X (Nat.le_trans (HSM.out.look A B N) (by omega))).mono ?_
        rintro e w1 ⟨rfl, F1, hn, ht⟩
        have HN := Lib.hid (And.intro hn ((Turns.of_below HB.out F).trans ht))
        clear hn ht
        go_wp2_with fail
        go_ret2
        exact Act1.mk' HN.out.1 HN.out.2
end Go.Proofs.Ytndiclkfincbgaa.Net
