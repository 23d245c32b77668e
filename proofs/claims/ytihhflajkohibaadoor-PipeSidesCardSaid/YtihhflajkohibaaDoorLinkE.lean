/- Layer 9: the frames that go out of an end. Conditions: the end lies (EndIs), and is one that may be (Ok). -/
import Derived.Test.YtihhflajkohibaaDoorLinkD
namespace Go.Proofs.YtihhflajkohibaaDoor.Link
set_option linter.unusedSimpArgs false
set_option linter.unusedVariables false
set_option maxRecDepth 100000
open Go.RowKit
theorem ret_slice {A : Option Addr} {n n' c : Nat} (h : n = n') : Ending.returned (.slice A n c) = .returned (.slice A n' c) := by rw [h]
def LE.at (x : LE) (k : Nat) : LE := { x with out := k }
def LE.sofar (x : LE) (k : Nat) : List Fr := (List.range' x.out (k - x.out)).map x.data
theorem sofar_step (x : LE) (k : Nat) (h : x.out ≤ k) : x.sofar k ++ [x.data k] = x.sofar (k + 1) := by
  unfold LE.sofar
  rw [show k + 1 - x.out = (k - x.out) + 1 from by omega, List.range'_concat, List.map_append, List.map_singleton]
  simp
  congr 1; omega
/-- how many are out, by the cell -/
def outOf (w : World) (p : Nat) : Nat := match w.cell? ⟨p, 6, none⟩ with | some (.int _ n) => n.toNat | _ => 0
structure OutRel (w : World) (p : Nat) (F : List Nat) (x : LE) (k : Nat) (G : List Nat) (wr : World) : Prop where
  k1 : x.out ≤ k
  k2 : k ≤ x.most
  lies : Lies wr p F (x.at k)
  row : Row wr (w.heap.size + 1) G (x.sofar k)
  box : wr.heap[w.heap.size]? = some (.cells #[.pointer (some ⟨p, 0, none⟩)] 50 (0, 0))
  new : ∀ j, j ∈ G → w.heap.size + 2 ≤ j
  kept : Kept F w wr
theorem OutRel.drewN {w : World} {p : Nat} {F : List Nat} {x : LE} {k : Nat} {G : List Nat} {wr : World} (h : OutRel w p F x k G wr) (n : Nat) : OutRel w p F x k G (wr.drewN n) :=
  ⟨h.k1, h.k2, h.lies.drewN n, h.row.drewN n, h.box, h.new, h.kept.drewN n⟩
/-- behind a call that turned nothing but the row -/
theorem OutRel.rowed {w : World} {p : Nat} {F : List Nat} {x : LE} {k : Nat} {G G' : List Nat} {wr w1 : World} (h : OutRel w p F x k G wr) (hF : ∀ j, j ∈ F → j < w.heap.size)
    (ht : Turns ((w.heap.size + 1) :: G) ((w.heap.size + 1) :: G') wr w1) : Lies w1 p F (x.at k) ∧ w1.heap[w.heap.size]? = some (.cells #[.pointer (some ⟨p, 0, none⟩)] 50 (0, 0)) ∧ Kept F w w1 := by
  have hapart : ∀ j, j < w.heap.size + 1 → j ∉ (w.heap.size + 1) :: G := fun j hj hm => by
    rcases List.mem_cons.1 hm with e | e
    · omega
    · have := h.new j e; omega
  refine ⟨h.lies.keep ht.kept.size fun j hj => ht.kept.block j (h.lies.lt hj) (hapart j (by have := hF j hj; omega)), (ht.kept.block _ (lt_of_block h.box) (hapart _ (by omega))).trans h.box, ?_⟩
  exact ⟨ht.kept.os.trans h.kept.os, ht.kept.tape.trans h.kept.tape, ht.kept.output.trans h.kept.output, Nat.le_trans h.kept.size ht.kept.size,
    fun j hj hn => (ht.kept.block j (Nat.lt_of_lt_of_le hj h.kept.size) (hapart j (by omega))).trans (h.kept.block j hj hn)⟩
theorem new_rows {w wr w1 : World} {G G' : List Nat} (hn : ∀ j, j ∈ G → w.heap.size + 2 ≤ j) (hs : w.heap.size + 2 ≤ wr.heap.size) (ht : Turns ((w.heap.size + 1) :: G) ((w.heap.size + 1) :: G') wr w1) (hb : w.heap.size + 1 ∉ G') : ∀ j, j ∈ G' → w.heap.size + 2 ≤ j := by
  intro j hj
  rcases ht.new j (List.mem_cons_of_mem _ hj) with e | e
  · rcases List.mem_cons.1 e with e | e
    · subst e; exact absurd hj hb
    · exact hn j e
  · omega
theorem OutRel.step {w : World} {p : Nat} {F : List Nat} {x : LE} {k : Nat} {G G' : List Nat} {wr w1 w2 : World} (h : OutRel w p F x k G wr) (hlt : k < x.most) (hpF : p ∈ F) (hF : ∀ j, j ∈ F → j < w.heap.size)
    (hR : Row w1 (w.heap.size + 1) G' (x.sofar k ++ [x.data k])) (ht : Turns ((w.heap.size + 1) :: G) ((w.heap.size + 1) :: G') wr w1) (e : w2 = w1.setCell ⟨p, 6, none⟩ (.int .i64 ((k : Int) + 1))) : OutRel w p F x (k + 1) G' w2 ∧ outOf w2 p = k + 1 := by
  subst e
  have hp := hF p hpF
  have hbl : w.heap.size + 2 ≤ wr.heap.size := by
    obtain ⟨_, _, hb, _⟩ := h.row.lies
    have := lt_of_block hb; omega
  obtain ⟨hL, hB, hK⟩ := h.rowed hF ht
  have hnew := new_rows h.new hbl ht hR.apart
  have hpG : p ∉ G' := fun hm => by have := hnew p hm; omega
  rw [sofar_step x k h.k1] at hR
  obtain ⟨A, c, G0, rfl, hn, hst, hv⟩ := hL
  have h6 := cell_of_block hst 6
  simp [ends] at h6
  refine ⟨⟨by have := h.k1; omega, hlt, ⟨A, c, G0, rfl, hn, ?_, hv.setCell hn _⟩, hR.keep (by simp [World.setCell]) (Below.heap_setCell _ _ _ _ (by simp; omega)) (fun j hj => Below.heap_setCell _ _ _ _ (by simp; rintro rfl; exact hpG hj)), ?_, hnew, hK.setCell (.inl (by simp)) _⟩, ?_⟩
  · rw [set_block hst]; simp [ends, LE.at]
  · rw [set_other (p := ⟨p, 6, none⟩) (by simp; omega)]; exact hB
  · unfold outOf; rw [World.cell?_setCell_same _ _ _ h6]; simp
theorem turn_row {w wr w1 : World} {p : Nat} {F G G' : List Nat} {y : LE} (hL : Lies wr p F y) (hB : wr.heap[w.heap.size]? = some (.cells #[.pointer (some ⟨p, 0, none⟩)] 50 (0, 0))) (hK : Kept F w wr) (hnew : ∀ j, j ∈ G → w.heap.size + 2 ≤ j) (hF : ∀ j, j ∈ F → j < w.heap.size)
    (ht : Turns ((w.heap.size + 1) :: G) ((w.heap.size + 1) :: G') wr w1) : Lies w1 p F y ∧ w1.heap[w.heap.size]? = some (.cells #[.pointer (some ⟨p, 0, none⟩)] 50 (0, 0)) ∧ Kept F w w1 := by
  have hapart : ∀ j, j < w.heap.size + 1 → j ∉ (w.heap.size + 1) :: G := fun j hj hm => by
    rcases List.mem_cons.1 hm with e | e
    · omega
    · have := hnew j e; omega
  refine ⟨hL.keep ht.kept.size fun j hj => ht.kept.block j (hL.lt hj) (hapart j (by have := hF j hj; omega)), (ht.kept.block _ (lt_of_block hB) (hapart _ (by omega))).trans hB, ?_⟩
  exact ⟨ht.kept.os.trans hK.os, ht.kept.tape.trans hK.tape, ht.kept.output.trans hK.output, Nat.le_trans hK.size ht.kept.size,
    fun j hj hn => (ht.kept.block j (Nat.lt_of_lt_of_le hj hK.size) (hapart j (by omega))).trans (hK.block j hj hn)⟩
def LE.seen (x : LE) : LE := { x with out := x.most, ever := x.most }
theorem out_end {w wz w2 : World} {p b : Nat} {F G : List Nat} {x : LE} {l : List Fr} {A : Option Addr} {c : Nat} (hL : Lies wz p F x.seen) (hv : Vec wz G 5 A l.length c (l.flatMap Fr.cells)) (hl : l = x.goes) (hK : Kept F w wz)
    (hok : x.Ok) (hpF : p ∈ F) (hF : ∀ j, j ∈ F → j < w.heap.size) (hnew : ∀ j, j ∈ G → w.heap.size + 2 ≤ j) (e : w2 = wz.setCell ⟨p, 9, none⟩ (.bool false)) :
    Vec w2 G 5 A x.goes.length c (x.goes.flatMap Fr.cells) ∧ (∀ k, k ∈ G → w.heap.size ≤ k) ∧ EndIs w2 p F x.gone ∧ Turns F F w w2 := by
  subst e; subst hl
  have hp := hF p hpF
  have hpG : p ∉ G := fun hm => by have := hnew p hm; omega
  refine ⟨hv.setCell hpG _, fun k hk => by have := hnew k hk; omega, ?_, ⟨hK.setCell (.inl hpF) _, fun _ h => .inl h⟩⟩
  obtain ⟨A0, c0, G0, rfl, hn, hst, hv0⟩ := hL
  refine ⟨⟨A0, c0, G0, rfl, hn, ?_, hv0.setCell hn _⟩, hok.gone⟩
  rw [set_block hst]; simp [ends, LE.gone, LE.seen]
theorem OutRel.seen {w : World} {p : Nat} {F : List Nat} {x : LE} {G : List Nat} {wr w2 : World} (h : OutRel w p F x x.most G wr) (hpF : p ∈ F) (hF : ∀ j, j ∈ F → j < w.heap.size) (e : w2 = wr.setCell ⟨p, 7, none⟩ (.int .i64 (x.most : Int))) :
    Lies w2 p F x.seen ∧ Row w2 (w.heap.size + 1) G (x.sofar x.most) ∧ w2.heap[w.heap.size]? = some (.cells #[.pointer (some ⟨p, 0, none⟩)] 50 (0, 0)) ∧ Kept F w w2 := by
  subst e
  have hp := hF p hpF
  have hpG : p ∉ G := fun hm => by have := h.new p hm; omega
  refine ⟨?_, h.row.keep (by simp [World.setCell]) (Below.heap_setCell _ _ _ _ (by simp; omega)) (fun j hj => Below.heap_setCell _ _ _ _ (by simp; rintro rfl; exact hpG hj)), ?_, h.kept.setCell (.inl hpF) _⟩
  · obtain ⟨A, c, G0, rfl, hn, hst, hv⟩ := h.lies
    refine ⟨A, c, G0, rfl, hn, ?_, hv.setCell hn _⟩
    rw [set_block hst]; simp [ends, LE.at, LE.seen]
  · rw [set_other (p := ⟨p, 7, none⟩) (by simp; omega)]; exact h.box
set_option maxHeartbeats 4000000 in
theorem out_any {w : World} {p : Nat} {F : List Nat} {x : LE} (h : EndIs w p F x) :
    Calls Tryd.prog 32 #[.pointer (some ⟨p, 0, none⟩)] w fun e w' => ∃ A c G, e = .returned (.slice A x.goes.length c) ∧ Vec w' G 5 A x.goes.length c (x.goes.flatMap Fr.cells) ∧ (∀ k, k ∈ G → w.heap.size ≤ k) ∧ EndIs w' p F x.gone ∧ Turns F F w w' := by
  have hok := h.ok
  have hFl := fun k => h.lt (k := k)
  have hpF := h.mem
  have hpl := h.lt hpF
  have h1 := hok.w8
  have h2 := hok.len
  have h3 := hok.q64
  have h4 := hok.out_most
  have h5 : x.most = min x.window x.bodies.length := rfl
  have h0 := h.lies
  have hstart : OutRel w p F x x.out [] ((w.alloc (.cells #[.pointer (some ⟨p, 0, none⟩)] 50)).alloc (.cells #[.slice none 0 0] 64)) := by
    refine ⟨Nat.le_refl _, h4, ?_, ⟨⟨none, 0, ?_, ?_⟩, by simp⟩, ?_, by simp, ((Kept.refl _ _).alloc _).alloc _⟩
    · exact h0.keep (by simp; omega) fun k hk => by rw [Below.heap_alloc _ _ _ (by have := hFl k hk; simp; omega), Below.heap_alloc _ _ _ (hFl k hk)]
    · have := heap_alloc_new (w.alloc (.cells #[.pointer (some ⟨p, 0, none⟩)] 50)) (.cells #[.slice none 0 0] 64)
      simpa [LE.sofar] using this
    · simpa [LE.sofar] using Vec.nil _ 5
    · rw [Below.heap_alloc _ _ _ (by simp)]; exact heap_alloc_new w _
  have HST := Lib.hid hstart
  have H5 := Lib.hid h5
  clear hok hstart h5
  go_enter Tryd.func32, Tryd.ntmps32
  go_wp2_with fail
  go_loopw [20] (fun _t wr => ∃ k G, OutRel w p F x k G wr) (fun _ wr => x.most - outOf wr p)
  case atStart => exact ⟨x.out, [], HST.out⟩
  case round =>
    obtain ⟨k, G, hr⟩ := hrel
    have hk1 := hr.k1
    have hk2 := hr.k2
    obtain ⟨A, c, G0, hF, hn, hst, hv⟩ := hr.lies
    have HF := Lib.hid hF
    have c1 := cell_of_block hst 1
    have c4 := cell_of_block hst 4
    have c5 := cell_of_block hst 5
    have c6 := cell_of_block hst 6
    simp [ends, LE.at] at c1 c4 c5 c6
    have f6 := frozen_of_block hst 6
    have x0 := cell_of_block hr.box 0
    simp at x0
    have hmu : outOf wr p = k := by unfold outOf; rw [c6]; simp
    have HMU := Lib.hid hmu
    have hvl := hv.le
    have hvm := hv.max
    clear hF hmu
    have c7 := cell_of_block hst 7
    simp [ends, LE.at] at c7
    have f7 := frozen_of_block hst 7
    have f9 := frozen_of_block hst 9
    by_cases hlt : k < x.most
    · have hbk : (x.bodies.map Value.string)[k]? = some (.string (x.bodies.getD k ⟨#[]⟩)) := by
        have := H5.out
        rw [List.getElem?_map, List.getD_eq_getElem?_getD, List.getElem?_eq_getElem (by omega)]; rfl
      obtain ⟨g, off, rfl, hG0, hgl, hce⟩ := hv.at hbk
      have hd1 : decide (k < x.window) = true := by have := H5.out; simp; omega
      have hd2 : decide (k < x.bodies.length) = true := by have := H5.out; simp; omega
      have hkl : (k : Int) < (x.bodies.length : Int) := by have := H5.out; omega
      have hk0 : (0 : Int) ≤ (k : Int) := by omega
      have hwk : IntKind.u64.wrap (k : Int) = (k : Int) := conv_in _ (by omega) (by omega)
      have hll : (x.sofar k).length ≤ 100 := by have := H5.out; simp [LE.sofar]; omega
      have hpl' := hr.lies.lt hpF
      have hXl := lt_of_block hr.box
      have hXG : w.heap.size ∉ G := fun hm => by have := hr.new _ hm; omega
      have hpG : p ∉ G := fun hm => by have := hr.new _ hm; omega
      have hXG1 : w.heap.size ∉ (w.heap.size + 1) :: G := by simp; exact hXG
      have hpG1 : p ∉ (w.heap.size + 1) :: G := by simp; exact ⟨by omega, hpG⟩
      have hgF : g ∈ F := by rw [HF.out, hG0]; simp
      have hgF2 := hFl g hgF
      have hgG1 : g ∉ (w.heap.size + 1) :: G := by simp; exact ⟨by omega, fun hm => by have := hr.new _ hm; omega⟩
      have HL := Lib.hid hr.lies
      have HR := Lib.hid hr.row
      have HX := Lib.hid hr.box
      have HBK := Lib.hid hbk
      have HG0 := Lib.hid hG0
      clear hbk hG0
      have hcase : (x.bodies.length : Int) < (x.window : Int) ∨ ¬ (x.bodies.length : Int) < (x.window : Int) := by omega
      rcases hcase with hmn | hmn
      all_goals
        go_wp2_with fail
        go_quiet (fail)
        go_wp2_with fail
        go_region_held3 (fun w' => w'.cell? ⟨w.heap.size, 0, none⟩ = some (.pointer (some ⟨p, 0, none⟩)) ∧ w'.cell? ⟨p, 6, none⟩ = some (.int .i64 (k : Int)) ∧ w'.cell? ⟨p, 5, none⟩ = some (.int .u64 x.first) ∧ w'.cell? ⟨p, 4, none⟩ = some (.slice (some ⟨g, off, none⟩) x.bodies.length c) ∧ w'.cell? ⟨g, off + k, none⟩ = some (.string (x.bodies.getD k ⟨#[]⟩))) (first | exact ⟨x0, c6, c5, c4, hce⟩ | exact ⟨q0, q6, q5, q4, qe⟩) ((go_at_call 46; refine (put_any (p := p) (X := w.heap.size) (F := F) (G := G) (x := x.at k) (l := x.sofar k) (by exact HL.out.drewN _) (by exact HR.out.drewN _) (by exact HX.out) hll hXG hpG _ _ _).mono ?_; rintro e w1 ⟨rfl, G', hR', hT'⟩; have q0 := (hT'.kept.cell (p := ⟨w.heap.size, 0, none⟩) (by exact hXl) (by exact hXG1)).trans x0; have q6 := (hT'.kept.cell (p := ⟨p, 6, none⟩) (by exact hpl') (by exact hpG1)).trans c6; have q5 := (hT'.kept.cell (p := ⟨p, 5, none⟩) (by exact hpl') (by exact hpG1)).trans c5; have q4 := (hT'.kept.cell (p := ⟨p, 4, none⟩) (by exact hpl') (by exact hpG1)).trans c4; have qe := (hT'.kept.cell (p := ⟨g, off + k, none⟩) (by exact hgl) (by exact hgG1)).trans hce; have qf6 := (hT'.kept.frozen (p := ⟨p, 6, none⟩) (by exact hpl') (by exact hpG1)).trans f6))
        obtain ⟨s1, s2⟩ := (hr.drewN (nq + 1)).step hlt hpF hFl hR' hT' rfl
        have S1 := Lib.hid s1
        have S2 := Lib.hid s2
        clear s1 s2
        go_wp2_with fail
        go_roundw
        case rel => exact ⟨k + 1, G', S1.out⟩
        case measure => rw [S2.out, HMU.out]; omega
    · obtain rfl : k = x.most := by omega
      have hev : ¬ (x.most : Int) < (x.ever : Int) := by have := H5.out; have := h.ok.ew; have := h.ok.el; omega
      have hev2 : (x.ever : Int) ≤ (x.most : Int) := by omega
      have hcase : ((x.bodies.length : Int) < (x.window : Int) ∧ decide (x.most < x.bodies.length) = false) ∨ (¬ (x.bodies.length : Int) < (x.window : Int) ∧ decide (x.most < x.window) = false) := by have := H5.out; simp; omega
      obtain ⟨A1, c1', hb1, hv1⟩ := hr.row.lies
      have d0 := cell_of_block hb1 0
      have c9 := cell_of_block hst 9
      simp [ends, LE.at] at d0 c9
      have hne1 : ¬ p = w.heap.size + 1 := by omega
      have hne2 : ¬ p = w.heap.size := by omega
      have hne3 : ¬ w.heap.size + 1 = p := by omega
      have hne4 : ¬ w.heap.size = p := by omega
      have hlen : (x.sofar x.most).length = x.most - x.out := by simp [LE.sofar]
      have hcz : (((x.sofar x.most).length : Int) == 0) = false ∧ x.acks = [] ∨ (((x.sofar x.most).length : Int) == 0) = true ∧ x.owes = false ∧ x.acks = [] ∨ (((x.sofar x.most).length : Int) == 0) = true ∧ x.owes = true ∧ x.acks = [⟨2, x.epoch, 0, x.want, ⟨#[]⟩⟩] ∧ (x.sofar x.most).length = 0 := by
        rcases Nat.lt_or_ge x.out x.most with hz | hz
        · exact .inl ⟨beq_eq_false_iff_ne.2 (by omega), by unfold LE.acks; rw [if_neg (by omega)]⟩
        · cases ho : x.owes
          · exact .inr (.inl ⟨by rw [beq_iff_eq]; omega, rfl, by unfold LE.acks; rw [if_neg (by simp [ho])]⟩)
          · exact .inr (.inr ⟨by rw [beq_iff_eq]; omega, rfl, by unfold LE.acks; rw [if_pos ⟨hz, ho⟩], by omega⟩)
      have HCZ := Lib.hid hcz
      have hll : (x.sofar x.most).length ≤ 100 := by have := H5.out; omega
      have HLL := Lib.hid hll
      clear hcz hlen hll
      rcases hcase with ⟨hmn, hd⟩ | ⟨hmn, hd⟩
      all_goals
        go_wp2_with fail
        go_quiet (fail)
        go_wp2_with fail
        refine wp_region_last (fun w' => w'.cell? ⟨w.heap.size, 0, none⟩ = some (.pointer (some ⟨p, 0, none⟩)) ∧ w'.cell? ⟨p, 6, none⟩ = some (.int .i64 (x.most : Int)) ∧ w'.cell? ⟨p, 7, none⟩ = some (.int .i64 (x.ever : Int))) 12 (by kernel_rfl) ?_
        refine AnyL.take (i := 0) (u := ?_) rfl (by kernel_rfl) (by kernel_rfl) (by kernel_rfl) (fun _ _ _ h => h) (by kernel_rfl) (by kernel_rfl) (Or.inl ⟨by rfl, ?_⟩) ⟨x0, c6, c7⟩ ?_
        rotate_left
        · (intro w9 hSw; (try dsimp only at hSw); go_simp; (try with_reducible rfl))
        try simp only [Act.put, List.setIfInBounds_toArray, List.set_cons_zero, List.set_cons_succ]
        refine AnyL.take (i := 1) (u := ?_) rfl (by kernel_rfl) (by kernel_rfl) (by kernel_rfl) (fun _ _ _ h => h) (by kernel_rfl) (by kernel_rfl) (Or.inl ⟨by rfl, ?_⟩) ⟨x0, c6, c7⟩ ?_
        rotate_left
        · (intro w9 hSw; (try dsimp only at hSw); go_simp; (try with_reducible rfl))
        try simp only [Act.put, List.setIfInBounds_toArray, List.set_cons_zero, List.set_cons_succ]
        refine AnyL.take (i := 2) (u := ?_) rfl (by kernel_rfl) (by kernel_rfl) (by kernel_rfl) (fun _ _ _ h => h) (by kernel_rfl) (by kernel_rfl) (Or.inl ⟨by rfl, ?_⟩) ⟨x0, c6, c7⟩ ?_
        rotate_left
        · (intro w9 hSw; (try dsimp only at hSw); go_simp; (try with_reducible rfl))
        try simp only [Act.put, List.setIfInBounds_toArray, List.set_cons_zero, List.set_cons_succ]
        refine AnyL.take (i := 3) (u := ?_) rfl (by kernel_rfl) (by kernel_rfl) (by kernel_rfl) (fun _ _ _ h => h) (by kernel_rfl) (by kernel_rfl) (Or.inl ⟨by rfl, ?_⟩) ⟨x0, c6, c7⟩ ?_
        rotate_left
        · (intro w9 hSw; (try dsimp only at hSw); go_simp; (try with_reducible rfl))
        try simp only [Act.put, List.setIfInBounds_toArray, List.set_cons_zero, List.set_cons_succ]
        refine AnyL.take (i := 4) (u := ?_) rfl (by kernel_rfl) (by kernel_rfl) (by kernel_rfl) (fun _ _ _ h => h) (by kernel_rfl) (by kernel_rfl) (Or.inl ⟨by rfl, ?_⟩) ⟨x0, c6, c7⟩ ?_
        rotate_left
        · (intro w9 hSw; (try dsimp only at hSw); go_simp; (try with_reducible rfl))
        try simp only [Act.put, List.setIfInBounds_toArray, List.set_cons_zero, List.set_cons_succ]
        refine AnyL.take (i := 5) (u := ?_) rfl (by kernel_rfl) (by kernel_rfl) (by kernel_rfl) (fun _ _ _ h => h) (by kernel_rfl) (by kernel_rfl) (Or.inl ⟨by rfl, ?_⟩) ⟨x0, c6, c7⟩ ?_
        rotate_left
        · (intro w9 hSw; (try dsimp only at hSw); go_simp; (try with_reducible rfl))
        try simp only [Act.put, List.setIfInBounds_toArray, List.set_cons_zero, List.set_cons_succ]
        refine AnyL.take (i := 6) (u := ?_) rfl (by kernel_rfl) (by kernel_rfl) (by kernel_rfl) (fun _ _ _ h => h) (by kernel_rfl) (by kernel_rfl) (Or.inl ⟨by rfl, ?_⟩) ⟨x0, c6, c7⟩ ?_
        rotate_left
        · (intro w9 hSw; (try dsimp only at hSw); go_simp; (try with_reducible rfl))
        try simp only [Act.put, List.setIfInBounds_toArray, List.set_cons_zero, List.set_cons_succ]
        refine AnyL.take (i := 7) (u := ?_) rfl (by kernel_rfl) (by kernel_rfl) (by kernel_rfl) (fun _ _ _ h => h) (by kernel_rfl) (by kernel_rfl) (Or.inl ⟨by rfl, ?_⟩) ⟨x0, c6, c7⟩ ?_
        rotate_left
        · (intro w9 hSw; (try dsimp only at hSw); go_simp; (try with_reducible rfl))
        try simp only [Act.put, List.setIfInBounds_toArray, List.set_cons_zero, List.set_cons_succ]
        refine AnyL.take (i := 8) (u := ?_) rfl (by kernel_rfl) (by kernel_rfl) (by kernel_rfl) (fun _ _ _ h => h) (by kernel_rfl) (by kernel_rfl) (Or.inl ⟨by rfl, ?_⟩) ⟨x0, c6, c7⟩ ?_
        rotate_left
        · (intro w9 hSw; (try dsimp only at hSw); go_simp; (try with_reducible rfl))
        try simp only [Act.put, List.setIfInBounds_toArray, List.set_cons_zero, List.set_cons_succ]
        refine AnyL.take (i := 9) (u := .int .i64 (x.most : Int)) rfl (by kernel_rfl) (by kernel_rfl) (by kernel_rfl) (fun _ _ _ h => h) (by kernel_rfl) (by kernel_rfl) (Or.inl ⟨by rfl, ?_⟩) ⟨x0, c6, c7⟩ ?_
        · (intro w9 hSw; (try dsimp only at hSw); go_simp; intro _; omega)
        try simp only [Act.put, List.setIfInBounds_toArray, List.set_cons_zero, List.set_cons_succ]
        refine AnyL.take (i := 10) (u := ?_) rfl (by kernel_rfl) (by kernel_rfl) (by kernel_rfl) (fun _ _ _ h => h) (by kernel_rfl) (by kernel_rfl) (Or.inl ⟨by rfl, ?_⟩) ⟨x0, c6, c7⟩ ?_
        rotate_left
        · (intro w9 hSw; (try dsimp only at hSw); go_simp; (try with_reducible rfl))
        try simp only [Act.put, List.setIfInBounds_toArray, List.set_cons_zero, List.set_cons_succ]
        refine AnyL.take (i := 11) (u := ?_) rfl (by kernel_rfl) (by kernel_rfl) (by kernel_rfl) (fun _ _ _ h => h) (by kernel_rfl) (by kernel_rfl) (Or.inl ⟨by rfl, ?_⟩) ⟨x0, c6, c7⟩ ?_
        rotate_left
        · (intro w9 hSw; (try dsimp only at hSw); go_simp; (try with_reducible rfl))
        try simp only [Act.put, List.setIfInBounds_toArray, List.set_cons_zero, List.set_cons_succ]
        refine AnyL.only (i := 12) (by kernel_rfl) rfl (fun K hK => ?_)
        go_simp
        refine hK _ _ (fun h => absurd rfl h) (fun _ => ?_)
        refine AnyL.done (by kernel_rfl) ?_
        have hsn := fun n => (hr.drewN n).seen hpF hFl rfl
        have HSN := Lib.hid hsn
        have hvn := fun n => (hv1.drewN n).setCell (p := ⟨p, 7, none⟩) (fun hm => by have := hr.new p hm; omega) (.int .i64 (x.most : Int))
        have HVN := Lib.hid hvn
        have HPG := Lib.hid (show p ∉ G from fun hm => by have := hr.new p hm; omega)
        have HXG := Lib.hid (show w.heap.size ∉ G from fun hm => by have := hr.new _ hm; omega)
        clear hsn hvn
        rcases HCZ.out with ⟨z1, z2⟩ | ⟨z1, z2, z3⟩ | ⟨z1, z2, z3, z4⟩
        · have hgo : x.sofar x.most = x.goes := by unfold LE.goes; rw [z2, List.append_nil]; rfl
          have HGO := Lib.hid hgo
          clear z2 hgo
          go_wp2
          go_ret
          obtain ⟨q1, q2, q3, q4⟩ := out_end (b := w.heap.size + 1) (HSN.out (nq + 1)).1 (HVN.out (nq + 1)) HGO.out (HSN.out (nq + 1)).2.2.2 h.ok hpF hFl hr.new rfl
          exact ⟨A1, c1', G, by rw [← HGO.out]; rfl, q1, q2, q3, q4⟩
        · have hgo : x.sofar x.most = x.goes := by unfold LE.goes; rw [z3, List.append_nil]; rfl
          have HGO := Lib.hid hgo
          clear z3 hgo
          rw [z2] at c9
          clear z2
          go_wp2
          go_ret
          obtain ⟨q1, q2, q3, q4⟩ := out_end (b := w.heap.size + 1) (HSN.out (nq + 1)).1 (HVN.out (nq + 1)) HGO.out (HSN.out (nq + 1)).2.2.2 h.ok hpF hFl hr.new rfl
          exact ⟨A1, c1', G, by rw [← HGO.out]; rfl, q1, q2, q3, q4⟩
        · have hgo : x.sofar x.most ++ [⟨2, x.epoch, 0, x.want, ⟨#[]⟩⟩] = x.goes := by unfold LE.goes; rw [z3]; rfl
          have HGO := Lib.hid hgo
          clear z3 hgo z4
          rw [z2] at c9
          clear z2
          go_wp2_with fail
          refine (put_any (p := p) (X := w.heap.size) (F := F) (G := G) (x := x.seen) (l := x.sofar x.most) (by exact (HSN.out (nq + 1)).1) (by exact (HSN.out (nq + 1)).2.1) (by exact (HSN.out (nq + 1)).2.2.1) HLL.out HXG.out HPG.out _ _ _).mono ?_
          rintro e w1 ⟨rfl, G', hR', hT'⟩
          obtain ⟨u1, u2, u3⟩ := turn_row (HSN.out (nq + 1)).1 (HSN.out (nq + 1)).2.2.1 (HSN.out (nq + 1)).2.2.2 hr.new hFl hT'
          have hnew' := new_rows hr.new (by have := lt_of_block hb1; simp [World.setCell]; omega) hT' hR'.apart
          obtain ⟨A2, c2, hb2, hv2⟩ := hR'.lies
          have e0 := cell_of_block hb2 0
          have e1 := cell_of_block u2 0
          obtain ⟨A3, c3, G3, hF3, hn3, hst3, hv3⟩ := u1
          have e9 := cell_of_block hst3 9
          have ef9 := frozen_of_block hst3 9
          simp only [List.getElem?_toArray, List.getElem?_cons_zero] at e0 e1
          simp [ends] at e9
          have U1 : Hid (Lies w1 p F x.seen) := Lib.hid ⟨A3, c3, G3, hF3, hn3, hst3, hv3⟩
          have HF3 := Lib.hid hF3
          clear hF3 z1
          go_wp2
          go_ret
          obtain ⟨q1, q2, q3, q4⟩ := out_end (b := w.heap.size + 1) U1.out hv2 HGO.out u3 h.ok hpF hFl hnew' rfl
          exact ⟨A2, c2, G', ret_slice (by rw [← HGO.out, List.length_append]; rfl), q1, q2, q3, q4⟩
end Go.Proofs.YtihhflajkohibaaDoor.Link
