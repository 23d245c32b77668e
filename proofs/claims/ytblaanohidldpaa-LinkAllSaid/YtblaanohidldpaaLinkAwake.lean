/- Layer 9: the statements' awake returns true. No conditions. -/
import Derived.Test.YtblaanohidldpaaLinkE
namespace Go.Proofs.Ytblaanohidldpaa.Link
set_option linter.unusedSimpArgs false
set_option linter.unusedVariables false
open Go.RowKit
theorem frames_at (l : List Fr) (i : Nat) (f : Fr) (h : l[i]? = some f) : (l.flatMap Fr.cells)[i * 5]? = some (.int .i64 f.kind) ∧ (l.flatMap Fr.cells)[i * 5 + 1]? = some (.int .i64 f.epoch) ∧ (l.flatMap Fr.cells)[i * 5 + 2]? = some (.int .u64 f.seq) ∧
    (l.flatMap Fr.cells)[i * 5 + 3]? = some (.int .u64 f.ack) ∧ (l.flatMap Fr.cells)[i * 5 + 4]? = some (.string f.body) := by
  induction l generalizing i with
  | nil => simp at h
  | cons g l ih =>
    cases i with
    | zero =>
      simp at h
      subst h
      simp [Fr.cells]
    | succ i =>
      have := ih i (by simpa using h)
      simp only [List.flatMap_cons]
      have hl : g.cells.length = 5 := rfl
      rw [List.getElem?_append_right (by omega), List.getElem?_append_right (by omega), List.getElem?_append_right (by omega), List.getElem?_append_right (by omega), List.getElem?_append_right (by omega), hl,
        show (i + 1) * 5 - 5 = i * 5 from by omega, show (i + 1) * 5 + 1 - 5 = i * 5 + 1 from by omega, show (i + 1) * 5 + 2 - 5 = i * 5 + 2 from by omega, show (i + 1) * 5 + 3 - 5 = i * 5 + 3 from by omega, show (i + 1) * 5 + 4 - 5 = i * 5 + 4 from by omega]
      exact this
/-- where a frame of a row lies -/
structure FrAt (w : World) (g o : Nat) (f : Fr) : Prop where
  c0 : w.cell? ⟨g, o, none⟩ = some (.int .i64 f.kind)
  c1 : w.cell? ⟨g, o + 1, none⟩ = some (.int .i64 f.epoch)
  c2 : w.cell? ⟨g, o + 2, none⟩ = some (.int .u64 f.seq)
  c3 : w.cell? ⟨g, o + 3, none⟩ = some (.int .u64 f.ack)
  c4 : w.cell? ⟨g, o + 4, none⟩ = some (.string f.body)
theorem vec_frame {w : World} {G : List Nat} {A : Option Addr} {n c : Nat} {l : List Fr} (hv : Vec w G 5 A n c (l.flatMap Fr.cells)) : l = [] ∨ ∃ g off, A = some ⟨g, off, none⟩ ∧ g ∈ G ∧ g < w.heap.size ∧ ∀ i f, l[i]? = some f → FrAt w g (off + i * 5) f := by
  cases l with
  | nil => exact .inl rfl
  | cons a l =>
    obtain ⟨h0, _⟩ := frames_at (a :: l) 0 a rfl
    obtain ⟨g, off, rfl, rfl, hg, _⟩ := hv.at h0
    refine .inr ⟨g, off, rfl, by simp, hg, fun i f hf => ?_⟩
    have hone : ∀ j u, ((a :: l).flatMap Fr.cells)[j]? = some u → w.cell? ⟨g, off + j, none⟩ = some u := fun j u hj => by
      obtain ⟨g', off', e, _, _, hc⟩ := hv.at hj
      injection e with e
      injection e with e1 e2
      subst e1; subst e2
      exact hc
    obtain ⟨a0, a1, a2, a3, a4⟩ := frames_at (a :: l) i f hf
    exact ⟨hone _ _ a0, by rw [Nat.add_assoc]; exact hone _ _ a1, by rw [Nat.add_assoc]; exact hone _ _ a2, by rw [Nat.add_assoc]; exact hone _ _ a3, by rw [Nat.add_assoc]; exact hone _ _ a4⟩
theorem FrAt.keep {w w' : World} {g o : Nat} {f : Fr} (h : FrAt w g o f) (hb : w'.heap[g]? = w.heap[g]?) : FrAt w' g o f :=
  ⟨(World.cell?_of_block (a := ⟨g, o, none⟩) hb).trans h.c0, (World.cell?_of_block (a := ⟨g, o + 1, none⟩) hb).trans h.c1, (World.cell?_of_block (a := ⟨g, o + 2, none⟩) hb).trans h.c2, (World.cell?_of_block (a := ⟨g, o + 3, none⟩) hb).trans h.c3, (World.cell?_of_block (a := ⟨g, o + 4, none⟩) hb).trans h.c4⟩

def ba (b : UInt8) : ByteArray := ⟨#[b]⟩
def A0 : LE := ⟨1, 4, 9, 3, [], 5, 0, 0, 5, false, 0⟩
def A1 : LE := ⟨1, 4, 9, 3, [ba 97], 5, 0, 0, 5, false, 0⟩
def A2 : LE := ⟨1, 4, 9, 3, [ba 97, ba 98], 5, 0, 0, 5, false, 0⟩
def A3 : LE := ⟨1, 4, 9, 3, [ba 97, ba 98], 5, 2, 2, 5, false, 0⟩
def A4 : LE := ⟨1, 4, 9, 3, [], 7, 0, 0, 5, false, 0⟩
def B1 : LE := ⟨1, 4, 9, 3, [], 5, 0, 0, 5, true, 0⟩
def B3 : LE := ⟨1, 4, 9, 3, [], 5, 0, 0, 6, true, 0⟩
def B4 : LE := ⟨1, 4, 9, 3, [], 5, 0, 0, 7, true, 0⟩
def B5 : LE := ⟨1, 4, 9, 3, [], 5, 0, 0, 7, false, 0⟩
def fa : Fr := ⟨1, 1, 5, 5, ba 97⟩
def fb : Fr := ⟨1, 1, 6, 5, ba 98⟩
def f5 : Fr := ⟨2, 1, 0, 5, ⟨#[]⟩⟩
def f7 : Fr := ⟨2, 1, 0, 7, ⟨#[]⟩⟩
theorem a0 : new 1 5 4 9 3 = A0 := by kernel_rfl
theorem a1 : A0.sent (ba 97) = A1 ∧ A0.sendE (ba 97) = 0 := ⟨by kernel_rfl, by kernel_rfl⟩
theorem a2 : A1.sent (ba 98) = A2 ∧ A1.sendE (ba 98) = 0 := ⟨by kernel_rfl, by kernel_rfl⟩
theorem a3 : A2.goes = [fa, fb] ∧ A2.gone = A3 := ⟨by kernel_rfl, by kernel_rfl⟩
theorem b1 : A0.taken fb = B1 ∧ A0.isNext fb = false ∧ A0.told fb = ⟨#[]⟩ := ⟨by kernel_rfl, by kernel_rfl, by kernel_rfl⟩
theorem b2 : B1.goes = [f5] ∧ B1.gone = A0 := ⟨by kernel_rfl, by kernel_rfl⟩
theorem b3 : A0.taken fa = B3 ∧ A0.isNext fa = true ∧ A0.told fa = ⟨#[97]⟩ := ⟨by kernel_rfl, by kernel_rfl, by kernel_rfl⟩
theorem b4 : B3.taken fb = B4 ∧ B3.isNext fb = true ∧ B3.told fb = ⟨#[98]⟩ := ⟨by kernel_rfl, by kernel_rfl, by kernel_rfl⟩
theorem b5 : B4.goes = [f7] ∧ B4.gone = B5 := ⟨by kernel_rfl, by kernel_rfl⟩
theorem a4 : A3.taken f7 = A4 := by kernel_rfl
/-- two ends, apart from each other -/
structure Two (w : World) (p q : Nat) (F G : List Nat) (x y : LE) : Prop where
  one : EndIs w p F x
  two : EndIs w q G y
  apart : ∀ k, k ∈ G → k ∉ F
theorem Two.symm {w : World} {p q : Nat} {F G : List Nat} {x y : LE} (h : Two w p q F G x y) : Two w q p G F y x := ⟨h.two, h.one, fun k hk hg => h.apart k hg hk⟩
theorem Two.turn {w w' : World} {p q : Nat} {F F' G : List Nat} {x x' y : LE} (h : Two w p q F G x y) (hx : EndIs w' p F' x') (ht : Turns F F' w w') : Two w' p q F' G x' y :=
  ⟨hx, h.two.kept ht.kept h.apart, fun k hk => ht.apart (h.two.lt hk) (h.apart k hk)⟩
theorem Two.after {w w' : World} {p q : Nat} {F G : List Nat} {x y : LE} (h : Two w p q F G x y) (hb : Below w.heap.size w w') : Two w' p q F G x y := ⟨h.one.after hb, h.two.after hb, h.apart⟩
set_option maxRecDepth 100000 in
set_option maxHeartbeats 4000000 in
theorem awake_any (w : World) : Calls Try.prog 10 #[] w fun e w' => e = .returned (.bool true) ∧ Below w.heap.size w w' := by
  go_enter Try.func10, Try.ntmps10
  go_wp2_with fail
  refine (new_any 1 5 4 9 3 (by kernel_rfl) _).mono ?_
  rintro e w1 ⟨rfl, hx1, hb1⟩
  rw [a0] at hx1
  go_wp2_with fail
  refine (new_any 1 5 4 9 3 (by kernel_rfl) _).mono ?_
  rintro e w2 ⟨rfl, hy2, hb2⟩
  rw [a0] at hy2
  have h2 : Two w2 w.heap.size w1.heap.size [w.heap.size] [w1.heap.size] A0 A0 := ⟨hx1.after hb2, hy2, by have := hx1.lt (k := w.heap.size) (by simp); simp; omega⟩
  have g2 : ∀ k, k ∈ [w.heap.size] ∨ k ∈ [w1.heap.size] → w.heap.size ≤ k := by have := hb1.size; simp; omega
  have hbw2 := hb1.trans (hb2.mono hb1.size)
  have G2 := Lib.hid g2
  clear hx1 hy2 g2
  go_wp2_with fail
  refine (send_any h2.one (ba 97)).mono ?_
  rintro e w3 ⟨rfl, F3, hx3, ht3⟩
  rw [a1.1] at hx3
  rw [a1.2]
  have h3 := h2.turn hx3 ht3
  go_wp2_with fail
  refine (send_any h3.one (ba 98)).mono ?_
  rintro e w4 ⟨rfl, F4, hx4, ht4⟩
  rw [a2.1] at hx4
  rw [a2.2]
  have h4 := h3.turn hx4 ht4
  go_wp2_with fail
  refine (out_any h4.one).mono ?_
  rintro e w5 ⟨A5, c5, G5, rfl, hv5, hG5, hx5, ht5⟩
  rw [a3.2] at hx5
  rw [a3.1] at hv5
  rw [a3.1]
  have h5 := h4.turn hx5 ht5
  rcases vec_frame hv5 with e5 | ⟨g, o, rfl, hgG, hgl, hfr⟩
  · cases e5
  have n1 : g ∉ F4 := fun hm => by have := h4.one.lt hm; have := hG5 g hgG; omega
  have n2 : g ∉ [w1.heap.size] := fun hm => by have := h4.two.lt hm; have := hG5 g hgG; omega
  have r1 := hfr 1 fb rfl
  have r0 := hfr 0 fa rfl
  rw [Nat.one_mul] at r1
  rw [Nat.zero_mul, Nat.add_zero] at r0
  have R0 := Lib.hid r0
  have R1 := Lib.hid r1
  obtain ⟨k0, k1, k2, k3, k4⟩ := r1
  simp only [fb] at k0 k1 k2 k3 k4
  clear hfr r0 hv5
  go_wp2_with fail
  refine (take_any h5.two fb).mono ?_
  rintro e w6 ⟨rfl, hy6, ht6⟩
  rw [b1.1] at hy6
  rw [b1.2.1, b1.2.2]
  have h6 := h5.symm.turn hy6 ht6
  have q6 := ht6.kept.block g hgl n2
  have l6 : g < w6.heap.size := Nat.lt_of_lt_of_le hgl ht6.kept.size
  clear k0 k1 k2 k3 k4
  go_wp2_with fail
  refine (out_any h6.one).mono ?_
  rintro e w7 ⟨A7, c7, G7, rfl, hv7, hG7, hy7, ht7⟩
  rw [b2.2] at hy7
  rw [b2.1] at hv7
  rw [b2.1]
  have h7 := h6.turn hy7 ht7
  have q7 := ht7.kept.block g l6 n2
  have l7 : g < w7.heap.size := Nat.lt_of_lt_of_le l6 ht7.kept.size
  rcases vec_frame hv7 with e7 | ⟨g7, o7, rfl, hgG7, hgl7, hfr7⟩
  · cases e7
  have n71 : g7 ∉ F4 := fun hm => by have := h6.two.lt hm; have := hG7 g7 hgG7; omega
  have n72 : g7 ∉ [w1.heap.size] := fun hm => by have := h6.one.lt hm; have := hG7 g7 hgG7; omega
  have s0 := hfr7 0 f5 rfl
  rw [Nat.zero_mul, Nat.add_zero] at s0
  have S0 := Lib.hid s0
  obtain ⟨k0, k1, k2, k3, k4⟩ := (R0.out.keep q6).keep q7
  simp only [fa] at k0 k1 k2 k3 k4
  clear s0 hfr7 hv7
  go_wp2_with fail
  refine (take_any h7.one fa).mono ?_
  rintro e w8 ⟨rfl, hy8, ht8⟩
  rw [b3.1] at hy8
  rw [b3.2.1, b3.2.2]
  have h8 := h7.turn hy8 ht8
  have q8 := ht8.kept.block g l7 n2
  have q87 := ht8.kept.block g7 hgl7 n72
  have l8 : g < w8.heap.size := Nat.lt_of_lt_of_le l7 ht8.kept.size
  have l87 : g7 < w8.heap.size := Nat.lt_of_lt_of_le hgl7 ht8.kept.size
  clear k0 k1 k2 k3 k4
  obtain ⟨k0, k1, k2, k3, k4⟩ := ((R1.out.keep q6).keep q7).keep q8
  simp only [fb] at k0 k1 k2 k3 k4
  go_wp2_with fail
  refine (take_any h8.one fb).mono ?_
  rintro e w9 ⟨rfl, hy9, ht9⟩
  rw [b4.1] at hy9
  rw [b4.2.1, b4.2.2]
  have h9 := h8.turn hy9 ht9
  have q97 := ht9.kept.block g7 l87 n72
  have l97 : g7 < w9.heap.size := Nat.lt_of_lt_of_le l87 ht9.kept.size
  clear k0 k1 k2 k3 k4
  go_wp2_with fail
  refine (out_any h9.one).mono ?_
  rintro e w10 ⟨A10, c10, G10, rfl, hv10, hG10, hy10, ht10⟩
  rw [b5.2] at hy10
  rw [b5.1] at hv10
  rw [b5.1]
  have h10 := h9.turn hy10 ht10
  have q107 := ht10.kept.block g7 l97 n72
  have l107 : g7 < w10.heap.size := Nat.lt_of_lt_of_le l97 ht10.kept.size
  rcases vec_frame hv10 with e10 | ⟨ga, oa, rfl, hgGa, hgla, hfra⟩
  · cases e10
  have na1 : ga ∉ F4 := fun hm => by have := h9.two.lt hm; have := hG10 ga hgGa; omega
  obtain ⟨k0, k1, k2, k3, k4⟩ := hfra 0 f7 rfl
  rw [Nat.zero_mul, Nat.add_zero] at k0 k1 k2 k3 k4
  simp only [f7] at k0 k1 k2 k3 k4
  clear hfra hv10
  go_wp2_with fail
  refine (take_any h10.two f7).mono ?_
  rintro e w11 ⟨rfl, hx11, ht11⟩
  rw [a4] at hx11
  have h11 := h10.symm.turn hx11 ht11
  have q117 := ht11.kept.block g7 l107 n71
  clear k0 k1 k2 k3 k4
  have s11 := (((S0.out.keep q87).keep q97).keep q107).keep q117
  have SS := Lib.hid s11
  clear s11
  go_wp2_with fail
  refine (numbers_any h11.two).mono ?_
  rintro e w12 ⟨rfl, n12, rfl⟩
  obtain ⟨k0, k1, k2, k3, k4⟩ := SS.out
  simp only [f5] at k0 k3
  simp only [B5]
  have h12 : EndIs (w11.drewN n12) w.heap.size F4 A4 := h11.one.drewN n12
  clear k1 k2 k4
  go_wp2_with fail
  refine (waiting_any h12).mono ?_
  rintro e w13 ⟨rfl, rfl⟩
  simp only [A4]
  go_wp2_with fail
  go_ret
  have t1 := ((ht3.trans ht4).trans ht5).below (B := w.heap.size) hbw2.size (fun k hk => G2.out k (.inl hk))
  have t2 : Turns [w1.heap.size] [w1.heap.size] w5 w10 := (((ht6.trans ht7).trans ht8).trans ht9).trans ht10
  have u1 := hbw2.trans t1.1
  have u2 := t2.below (B := w.heap.size) u1.size (fun k hk => G2.out k (.inr hk))
  have u3 := u1.trans u2.1
  have u4 := ht11.below (B := w.heap.size) u3.size t1.2
  exact ⟨rfl, below_drewN (u3.trans u4.1) n12⟩
end Go.Proofs.Ytblaanohidldpaa.Link
