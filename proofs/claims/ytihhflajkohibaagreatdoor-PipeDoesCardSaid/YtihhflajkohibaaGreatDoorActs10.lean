/- Layer 10: what is done, as it comes in: acts opened; few; in. Conditions: the reading of the argument. -/
import Derived.Test.YtihhflajkohibaaGreatDoorOpenAny
import Derived.Test.YtihhflajkohibaaGreatDoorGoMany
namespace Go.Proofs.YtihhflajkohibaaGreatDoor.Pipe
set_option linter.unusedSimpArgs false
set_option linter.unusedVariables false
set_option maxRecDepth 100000
open Go.ChangeShapes Go.WideShapes Go.ChangeAt Go.RowKit Go.Deep
/-- an act -/
structure Act10 where
  K : Int
  Side : Int
  N : Int
  X : Int
  S : ByteArray
def Act10.cells (a : Act10) : List Value := [.int .i64 a.K, .int .i64 a.Side, .int .i64 a.N, .int .i64 a.X, .string a.S]
def Act10.Good (a : Act10) : Prop := a.S.size ≤ maxLen ∧ -9223372036854775808 ≤ a.Side ∧ a.Side ≤ 9223372036854775807 ∧ -9223372036854775808 ≤ a.X ∧ a.X ≤ 9223372036854775807
theorem list5 {l : List Value} (h : l.length = 5) : ∃ a b c d e, l = [a, b, c, d, e] := by
  match l, h with
  | [a, b, c, d, e], _ => exact ⟨a, b, c, d, e, rfl⟩
section
variable {H : Type} {enc : TypeId × Value → H} {w : World} {base : Nat} {spare : Nat → Bool} {held : Bool}
theorem act_of {fuel : Nat} {cs : List Value} {y : DataW H × List MemPlace} (h : DataW.trod enc Tryz.prog w base spare held fuel 38 cs = some y) : ∃ a : Act10, cs = a.cells ∧ a.Good := by
  obtain ⟨xs, n, _, _, hl, hxl, hf⟩ := DataW.trod_struct Tryz.underlying38 h
  obtain ⟨c0, c1, c2, c3, c4, rfl⟩ := list5 (hl.trans (by kernel_rfl))
  have ci : Tryz.prog.cellsOf 3 = 1 := by kernel_rfl
  have cs : Tryz.prog.cellsOf 9 = 1 := by kernel_rfl
  have h0 : DataW.trod enc Tryz.prog w base spare held n 3 (([c0, c1, c2, c3, c4].drop 0).take (Tryz.prog.cellsOf 3)) = xs[0]? := hf 0 _ rfl
  have h1 : DataW.trod enc Tryz.prog w base spare held n 3 (([c0, c1, c2, c3, c4].drop 1).take (Tryz.prog.cellsOf 3)) = xs[1]? := hf 1 _ rfl
  have h2 : DataW.trod enc Tryz.prog w base spare held n 3 (([c0, c1, c2, c3, c4].drop 2).take (Tryz.prog.cellsOf 3)) = xs[2]? := hf 2 _ rfl
  have h3 : DataW.trod enc Tryz.prog w base spare held n 3 (([c0, c1, c2, c3, c4].drop 3).take (Tryz.prog.cellsOf 3)) = xs[3]? := hf 3 _ rfl
  have h4 : DataW.trod enc Tryz.prog w base spare held n 9 (([c0, c1, c2, c3, c4].drop 4).take (Tryz.prog.cellsOf 9)) = xs[4]? := hf 4 _ rfl
  rw [ci] at h0 h1 h2 h3
  rw [cs] at h4
  have e : ∀ i, i < 5 → ∃ z, xs[i]? = some z := fun i hi => ⟨_, List.getElem?_eq_getElem (by rw [hxl]; exact hi)⟩
  obtain ⟨z0, e0⟩ := e 0 (by omega)
  obtain ⟨z1, e1⟩ := e 1 (by omega)
  obtain ⟨z2, e2⟩ := e 2 (by omega)
  obtain ⟨z3, e3⟩ := e 3 (by omega)
  obtain ⟨z4, e4⟩ := e 4 (by omega)
  obtain ⟨k, hk, _⟩ := DataW.trod_int Tryz.underlying3 (h0.trans e0)
  obtain ⟨a, ha, _, wa⟩ := DataW.trod_int Tryz.underlying3 (h1.trans e1)
  obtain ⟨m, hm, _⟩ := DataW.trod_int Tryz.underlying3 (h2.trans e2)
  obtain ⟨x, hx, _, wx⟩ := DataW.trod_int Tryz.underlying3 (h3.trans e3)
  obtain ⟨t, ht, _, wt⟩ := DataW.trod_string Tryz.underlying9 (h4.trans e4)
  simp at hk ha hm hx ht
  subst hk; subst ha; subst hm; subst hx; subst ht
  simp [Lit.wf, IntKind.min, IntKind.max, IntKind.bits, IntKind.signed] at wa wx
  exact ⟨⟨k, a, m, x, t⟩, rfl, wt, by show _ ≤ a; omega, by show a ≤ _; omega, by show _ ≤ x; omega, by show x ≤ _; omega⟩
end
/-- where an act of the row lies -/
structure ActAt (w : World) (g o : Nat) (a : Act10) : Prop where
  c0 : w.cell? ⟨g, o, none⟩ = some (.int .i64 a.K)
  c1 : w.cell? ⟨g, o + 1, none⟩ = some (.int .i64 a.Side)
  c2 : w.cell? ⟨g, o + 2, none⟩ = some (.int .i64 a.N)
  c3 : w.cell? ⟨g, o + 3, none⟩ = some (.int .i64 a.X)
  c4 : w.cell? ⟨g, o + 4, none⟩ = some (.string a.S)
theorem ActAt.of_below {w w' : World} {B g o : Nat} {a : Act10} (h : ActAt w g o a) (hb : Below B w w') (hg : g < B) : ActAt w' g o a :=
  ⟨(hb.cell (p := ⟨g, o, none⟩) hg).trans h.c0, (hb.cell (p := ⟨g, o + 1, none⟩) hg).trans h.c1, (hb.cell (p := ⟨g, o + 2, none⟩) hg).trans h.c2, (hb.cell (p := ⟨g, o + 3, none⟩) hg).trans h.c3, (hb.cell (p := ⟨g, o + 4, none⟩) hg).trans h.c4⟩
theorem acts_at {w : World} {lo hi : Nat} {A : Option Addr} {l : List Act10} (h : Sl w lo hi 5 A l.length (l.flatMap Act10.cells)) {k : Nat} (hk : k < l.length) : ∃ g o, A = some ⟨g, o, none⟩ ∧ lo ≤ g ∧ g < hi ∧ ActAt w g (o + k * 5) l[k] := by
  obtain ⟨g, o, e, h1, h2, hc⟩ := h.2 (by omega)
  have hat : ∀ r u, r < 5 → (l[k].cells)[r]? = some u → w.cell? ⟨g, o + (k * 5 + r), none⟩ = some u := fun r u hr hu => hc _ u (by
    rw [flat_get (size := 5) (fun _ => rfl) l k r hr, List.getElem?_eq_getElem hk]; exact hu)
  refine ⟨g, o, e, h1, h2, hat 0 _ (by omega) rfl, ?_, ?_, ?_, ?_⟩
  · rw [Nat.add_assoc]; exact hat 1 _ (by omega) rfl
  · rw [Nat.add_assoc]; exact hat 2 _ (by omega) rfl
  · rw [Nat.add_assoc]; exact hat 3 _ (by omega) rfl
  · rw [Nat.add_assoc]; exact hat 4 _ (by omega) rfl
def ShortA (l : List Act10) : Prop := ∀ a ∈ l, a.S.size ≤ 70
def FewSaid (l : List Act10) (e : Ending) : Prop := ∃ b : Bool, e = .returned (.bool b) ∧ (b = true → l.length ≤ 80 ∧ ShortA l)
set_option maxHeartbeats 2000000 in
theorem few_any {w : World} {lo hi : Nat} {A : Option Addr} {c : Nat} {l : List Act10} (hA : Sl w lo hi 5 A l.length (l.flatMap Act10.cells)) (hy : l.length ≤ maxLen) :
    Calls Tryz.prog 6 #[.slice A l.length c] w fun e w' => FewSaid l e ∧ w = w' := by
  unfold maxLen at hy
  go_enter Tryz.func6, Tryz.ntmps6
  go_wp2_with fail
  go_loop [3] (fun i => ∃ k : Nat, k ≤ l.length ∧ k ≤ 81 ∧ i = .int .i64 (k : Int) ∧ ShortA (l.take k)) (fun i => 81 - (intOf i).toNat)
  case atStart => exact ⟨0, Nat.zero_le _, by omega, rfl, by simp [ShortA]⟩
  case round =>
    obtain ⟨k, hk, hk81, rfl, hs⟩ := hrel
    have HS := Lib.hid hs
    clear hs
    by_cases hlt : k < l.length
    · have d1 : decide (k < l.length) = true := by simpa using hlt
      by_cases h81 : k < 81
      · have d2 : decide ((k : Int) < 81) = true := by simp; omega
        obtain ⟨g, o, rfl, _, _, hat⟩ := acts_at hA hlt
        have c4 := hat.c4
        have i0 : (0 : Int) ≤ (k : Int) := by omega
        have i1 : (k : Int) < (l.length : Int) := by omega
        have hstep : l[k].S.size ≤ 70 → ShortA (l.take (k + 1)) := by
          intro p1 a ha
          rw [List.take_succ_eq_append_getElem hlt] at ha
          rcases List.mem_append.1 ha with ha | ha
          · exact HS.out a ha
          · simp at ha; subst ha; exact p1
        have HST := Lib.hid hstep
        clear hat hstep
        generalize l[k].S = s at *
        by_cases p1 : s.size ≤ 70
        · have d3 : decide (70 < (s.size : Int)) = false := by simp; omega
          have hn := HST.out p1
          have HN := Lib.hid hn
          clear hn
          go_wp2_with fail
          go_round
          case rel => exact ⟨k + 1, by omega, by omega, by go_num, HN.out⟩
          case measure => simp [intOf]; omega
        · have d3 : decide (70 < (s.size : Int)) = true := by simp; omega
          go_wp2_with fail
          go_ret
          exact ⟨⟨false, rfl, by simp⟩, rfl⟩
      · have d2 : decide ((k : Int) < 81) = false := by simp; omega
        have d3 : decide ((l.length : Int) ≤ 80) = false := by simp; omega
        go_wp2_with fail
        go_ret
        exact ⟨⟨false, rfl, by simp⟩, rfl⟩
    · obtain rfl : k = l.length := by omega
      have hs := HS.out
      rw [List.take_length] at hs
      have HS2 := Lib.hid hs
      clear hs
      have d1 : decide (l.length < l.length) = false := by simp
      by_cases h80 : l.length ≤ 80
      · have d3 : decide ((l.length : Int) ≤ 80) = true := by simp; omega
        go_wp2_with fail
        go_ret
        exact ⟨⟨true, rfl, fun _ => ⟨h80, HS2.out⟩⟩, rfl⟩
      · have d3 : decide ((l.length : Int) ≤ 80) = false := by simp; omega
        go_wp2_with fail
        go_ret
        exact ⟨⟨false, rfl, by simp⟩, rfl⟩
theorem beq_ba (t s : ByteArray) : (t.toList == s.toList) = decide (t = s) := by
  rw [Bool.eq_iff_iff, beq_iff_eq, decide_eq_true_iff, Lib.toList_data, Lib.toList_data]
  exact ⟨fun h => by cases t; cases s; simp [Array.toList_inj] at h; rw [h], fun h => by rw [h]⟩
def InSaid (l : List ByteArray) (s : ByteArray) (e : Ending) : Prop := ∃ r : Bool, e = .returned (.bool r) ∧ (r = true ↔ s ∈ l)
end Go.Proofs.YtihhflajkohibaaGreatDoor.Pipe
