/- Layer 9: what a frame that came does to an end in memory. Conditions: the end lies (EndIs), and is one that may be (Ok). -/
import Derived.Test.YtihhflajkohibaaDoorLink
namespace Go.Proofs.YtihhflajkohibaaDoor.Link
set_option linter.unusedSimpArgs false
set_option linter.unusedVariables false
set_option maxRecDepth 100000
open Go.RowKit
section
variable {w : World} {p : Nat} {F : List Nat} {x : LE}
theorem conv_in (n : Int) (h0 : 0 ≤ n) (h1 : n ≤ 1000) : IntKind.u64.wrap n = n := IntWalk.u64_in _ (by omega)
set_option maxHeartbeats 400000 in
theorem came_any (h : EndIs w p F x) (k : Nat) (hk : k ≤ x.ever) :
    Calls Tryd.prog 52 #[.pointer (some ⟨p, 0, none⟩), .int .i64 (k : Int)] w fun e w' => e = .returned (.tuple #[]) ∧ EndIs w' p F (x.came k) ∧ Turns F F w w' := by
  have hok := h.ok.came hk
  have HOK := Lib.hid hok
  have h1 := h.ok.oe
  have h2 := h.ok.ew
  have h3 := h.ok.el
  have h4 := h.ok.w8
  obtain ⟨A, c, G, rfl, hn, hst, hv⟩ := h.lies
  have hcl := hv.le
  have hcm := hv.max
  unfold maxLen at hcm
  have c4 := cell_of_block hst 4
  have c5 := cell_of_block hst 5
  have c6 := cell_of_block hst 6
  have c7 := cell_of_block hst 7
  have c10 := cell_of_block hst 10
  simp [ends] at c4 c5 c6 c7 c10
  have f4 := frozen_of_block hst 4
  have f5 := frozen_of_block hst 5
  have f6 := frozen_of_block hst 6
  have f7 := frozen_of_block hst 7
  have f10 := frozen_of_block hst 10
  have hcv := conv_in (k : Int) (by omega) (by omega)
  have g0 : (0 : Int) ≤ (k : Int) := by omega
  have g1 : (k : Int) ≤ (c : Int) := by omega
  clear hok
  have hom : (((x.out - k : Nat) : Int)) = max ((x.out : Int) - (k : Int)) 0 := by omega
  have HOM := Lib.hid hom
  have hev : (((x.ever - k : Nat) : Int)) = (x.ever : Int) - (k : Int) := by omega
  have HEV := Lib.hid hev
  have hdl : (x.came k).bodies.length = x.bodies.length - k := by simp [LE.came]
  have HDL := Lib.hid hdl
  have hdm : (x.came k).bodies.map Value.string = (x.bodies.map Value.string).drop k := by simp [LE.came, List.map_drop]
  have HDM := Lib.hid hdm
  clear hom hev hdl hdm
  have fin : ∀ (A' : Option Addr) (n' c' : Nat) (o : Int) (w2 : World), n' = x.bodies.length - k → o = max ((x.out : Int) - (k : Int)) 0 → Vec w G 1 A' (x.bodies.length - k) c' ((x.bodies.map Value.string).drop k) →
      w2 = (((((w.setCell ⟨p, 4, none⟩ (.slice A' n' c')).setCell ⟨p, 5, none⟩ (.int .u64 (IntKind.u64.wrap (x.first + (k : Int))))).setCell ⟨p, 6, none⟩ (.int .i64 o)).setCell ⟨p, 7, none⟩ (.int .i64 ((x.ever : Int) - (k : Int)))).setCell ⟨p, 10, none⟩ (.int .i64 0)) →
      EndIs w2 p (p :: G) (x.came k) ∧ Turns (p :: G) (p :: G) w w2 := by
    intro A' n' c' o w2 hn' ho hv2 e
    subst e
    subst hn'
    refine EndIs.turned (A' := A') (c' := c') hn (set_block (set_block (set_block (set_block (set_block hst 4 _) 5 _) 6 _) 7 _) 10 _) ?_ ?_ HOK.out ?_
    · rw [ho, ← HOM.out, ← HEV.out]
      simp [ends, LE.came, u]
    · rw [HDL.out, HDM.out]; exact hv2
    · exact (((((Kept.refl [p] w).setCell (.inl (by simp)) _).setCell (.inl (by simp)) _).setCell (.inl (by simp)) _).setCell (.inl (by simp)) _).setCell (.inl (by simp)) _
  have FIN := Lib.hid fin
  clear fin
  by_cases hck : k = c
  · have hem := hv.emptied k (by omega) hck
    rw [Nat.mul_one, show c - k = 0 from by omega] at hem
    have HEM := Lib.hid hem
    clear hem
    subst hck
    go_enter Tryd.func52, Tryd.ntmps52
    go_wp2
    all_goals
      go_end0
      exact ⟨rfl, FIN.out A 0 0 _ _ (by omega) (by omega) HEM.out rfl⟩
  · have hlt : (k : Int) < (c : Int) := by omega
    rcases hv.place with ⟨rfl, rfl, rfl⟩ | ⟨g, off, rfl, rfl, _⟩
    · omega
    · have hdr := hv.dropped k (by omega) (by omega) g off rfl
      rw [Nat.mul_one] at hdr
      have HDR := Lib.hid hdr
      clear hdr
      go_enter Tryd.func52, Tryd.ntmps52
      go_wp2
      all_goals
        go_end0
        exact ⟨rfl, FIN.out _ (x.bodies.length - k) _ _ _ rfl (by omega) HDR.out rfl⟩
end
end Go.Proofs.YtihhflajkohibaaDoor.Link
