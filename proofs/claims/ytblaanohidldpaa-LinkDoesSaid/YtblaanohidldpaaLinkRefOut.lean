/- Layer 9, the reference: what lets frames out of an end as a value. Conditions: the value's row lies (Vec), and the end is one that may be (Ok). -/
import Derived.Test.YtblaanohidldpaaLinkRef
import Derived.Test.YtblaanohidldpaaFlow
namespace Go.Proofs.Ytblaanohidldpaa.Link
set_option linter.unusedSimpArgs false
set_option linter.unusedVariables false
open Go.RowKit
def zero11 : Array Value := #[.int .i64 0, .int .i64 0, .int .i64 0, .int .i64 0, .slice none 0 0, .int .u64 0, .int .i64 0, .int .i64 0, .int .u64 0, .bool false, .int .i64 0]
structure RefRel (w : World) (x : LE) (A : Option Addr) (c k : Nat) (s : Value) (wr : World) : Prop where
  k1 : x.out ≤ k
  k2 : k ≤ x.most
  box : wr.heap[w.heap.size]? = some (.cells (ends (x.at k) A c) 38 (0, 0))
  res : wr.heap[w.heap.size + 1]? = some (.cells zero11 38 (0, 0))
  row : ∃ G B d, s = .slice B (x.sofar k).length d ∧ Vec wr G 5 B (x.sofar k).length d ((x.sofar k).flatMap Fr.cells) ∧ ∀ j, j ∈ G → w.heap.size + 2 ≤ j
  below : Below w.heap.size w wr
theorem RefRel.step {w v : World} {x : LE} {A B2 : Option Addr} {c k d2 : Nat} {G2 : List Nat} (hk1 : x.out ≤ k) (hlt : k < x.most) (hbx : v.heap[w.heap.size]? = some (.cells (ends (x.at k) A c) 38 (0, 0)))
    (hres : v.heap[w.heap.size + 1]? = some (.cells zero11 38 (0, 0))) (hv : Vec v G2 5 B2 ((x.sofar k).length + 1) d2 ((x.sofar k).flatMap Fr.cells ++ (x.data k).cells)) (hG2 : ∀ j, j ∈ G2 → w.heap.size + 2 ≤ j) (hb : Below w.heap.size w v) :
    RefRel w x A c (k + 1) (.slice B2 ((x.sofar k).length + 1) d2) (v.setCell ⟨w.heap.size, 6, none⟩ (.int .i64 ((k : Int) + 1))) ∧ outOf (v.setCell ⟨w.heap.size, 6, none⟩ (.int .i64 ((k : Int) + 1))) w.heap.size = k + 1 := by
  have e := sofar_step x k hk1
  have hl : (x.sofar (k + 1)).length = (x.sofar k).length + 1 := by rw [← e]; simp
  have hf : (x.sofar (k + 1)).flatMap Fr.cells = (x.sofar k).flatMap Fr.cells ++ (x.data k).cells := by rw [← e]; simp
  have h6 := cell_of_block hbx 6
  simp [ends] at h6
  refine ⟨⟨by omega, hlt, ?_, ?_, ⟨G2, B2, d2, by rw [hl], ?_, hG2⟩, hb.setCell (Nat.le_refl _) _⟩, ?_⟩
  · rw [set_block hbx]; simp [ends, LE.at]
  · rw [set_other (p := ⟨w.heap.size, 6, none⟩) (by simp)]; exact hres
  · rw [hl, hf]; exact hv.setCell (fun hm => by have : w.heap.size + 2 ≤ w.heap.size := hG2 _ hm; omega) _
  · unfold outOf; rw [World.cell?_setCell_same _ _ _ h6]; simp
theorem new_from {w w' : World} {B : Nat} {G G' : List Nat} (h : Turns G G' w w') (hG : ∀ j, j ∈ G → B ≤ j) (hB : B ≤ w.heap.size) : ∀ j, j ∈ G' → B ≤ j := fun j hj => (h.new j hj).elim (hG j) fun h => Nat.le_trans hB h
theorem ack_step {w wc w5 : World} {o b1 b2 : Obj} {G G5 : List Nat} (hb3 : Below w.heap.size w wc) (hs : w.heap.size + 1 < wc.heap.size) (hG : ∀ j, j ∈ G → w.heap.size + 2 ≤ j) (ht : Turns G G5 (wc.alloc o) w5)
    (h0 : wc.heap[w.heap.size]? = some b1) (h1 : wc.heap[w.heap.size + 1]? = some b2) : (∀ j, j ∈ G5 → w.heap.size + 2 ≤ j) ∧ w5.heap[w.heap.size]? = some b1 ∧ w5.heap[w.heap.size + 1]? = some b2 ∧ Below w.heap.size w w5 := by
  have hz : (wc.alloc o).heap.size = wc.heap.size + 1 := by simp
  have hn : ∀ k, k < w.heap.size + 2 → k ∉ G := fun k hk hm => by have := hG k hm; omega
  refine ⟨new_from ht hG (by omega), ?_, ?_, (hb3.alloc hb3.size _).trans (ht.kept.below (by omega) fun j hj => by have := hG j hj; omega)⟩
  · exact (ht.kept.block _ (by omega) (hn _ (by omega))).trans ((Below.heap_alloc _ _ _ (by omega)).trans h0)
  · exact (ht.kept.block _ (by omega) (hn _ (by omega))).trans ((Below.heap_alloc _ _ _ (by omega)).trans h1)
theorem data_val (x : LE) (k : Nat) : ((x.data k).cells : List Value) = [.int .i64 1, .int .i64 x.epoch, .int .u64 (u (x.first + (k : Int))), .int .u64 x.want, .string (x.bodies.getD k ⟨#[]⟩)] := rfl
set_option maxHeartbeats 4000000 in
theorem ref_out {w : World} {x : LE} {F : List Nat} {A : Option Addr} {c : Nat} (h : Low w F x A c) (hx : x.Ok) :
    Calls Try.prog 18 #[.agg (ends x A c)] w fun e w' => ∃ B d G, e = .returned (.tuple #[.agg (ends x.gone A c), .slice B x.goes.length d]) ∧
      Vec w' G 5 B x.goes.length d (x.goes.flatMap Fr.cells) ∧ (∀ k, k ∈ G → w.heap.size ≤ k) ∧ Below w.heap.size w w' := by
  have h1 := hx.w8
  have h2 := hx.len
  have h3 := hx.q64
  have h4 := hx.out_most
  have h5 : x.most = min x.window x.bodies.length := rfl
  have h6 : x.ever ≤ x.most := by have := hx.ew; have := hx.el; omega
  obtain ⟨i0, hi0, hz0, hz1, hz2⟩ := info_parts frame_info
  have hstart : RefRel w x A c x.out (.slice (some ⟨w.heap.size + 1 + 1, 0, none⟩) 0 0) (((w.alloc (.cells (ends x A c) 38)).alloc (.cells zero11 38)).alloc (.cells #[] 42)) := by
    refine ⟨Nat.le_refl _, h4, ?_, ?_, ⟨[w.heap.size + 1 + 1], some ⟨w.heap.size + 1 + 1, 0, none⟩, 0, by simp [LE.sofar], ?_, by simp⟩, ?_⟩
    · rw [Below.heap_alloc _ _ _ (by simp; omega), Below.heap_alloc _ _ _ (by simp)]; exact heap_alloc_new w _
    · rw [Below.heap_alloc _ _ _ (by simp)]; exact heap_new_at _ _ _ (by simp)
    · have := vec_empty ((w.alloc (.cells (ends x A c) 38)).alloc (.cells zero11 38)) 42 5 (w.heap.size + 1 + 1) (by simp)
      simpa [LE.sofar] using this
    · exact (((Below.refl _ _).alloc (Nat.le_refl _) _).alloc (by simp) _).alloc (by simp; omega) _
  unfold zero11 at hstart
  have HST := Lib.hid hstart
  have H := Lib.hid h
  have H5 := Lib.hid h5
  clear hstart h h5
  unfold ends at HST ⊢
  go_enter Try.func18, Try.ntmps18
  go_wp2_with fail
  go_loopw [4] (fun s wr => ∃ k, RefRel w x A c k s wr) (fun _ wr => x.most - outOf wr w.heap.size)
  case atStart => exact ⟨x.out, HST.out⟩
  case round =>
    obtain ⟨k, hr⟩ := hrel
    have hk1 := hr.k1
    have hk2 := hr.k2
    obtain ⟨G, B, d, rfl, hv, hG⟩ := hr.row
    have hbox := hr.box
    have c6 := cell_of_block hbox 6
    simp [ends, LE.at] at c6
    have hmu : outOf wr w.heap.size = k := by unfold outOf; rw [c6]; simp
    have HMU := Lib.hid hmu
    have HBX := Lib.hid hbox
    have HV := Lib.hid hv
    have HG := Lib.hid hG
    have HB := Lib.hid hr.below
    have HRES := Lib.hid hr.res
    have hsz := lt_of_block hr.res
    clear hmu hbox hv hG c6 hr
    by_cases hlt : k < x.most
    · have hbk : (x.bodies.map Value.string)[k]? = some (.string (x.bodies.getD k ⟨#[]⟩)) := by
        have := H5.out
        rw [List.getElem?_map, List.getD_eq_getElem?_getD, List.getElem?_eq_getElem (by omega)]; rfl
      obtain ⟨g, off, rfl, hF, hgl, hce⟩ := (H.out.some_ (by rintro e; rw [e] at hbk; simp at hbk)).at hbk
      have hd1 : decide (k < x.window) = true := by have := H5.out; simp; omega
      have hd2 : decide (k < x.bodies.length) = true := by have := H5.out; simp; omega
      have hkl : (k : Int) < (x.bodies.length : Int) := by have := H5.out; omega
      have hk0 : (0 : Int) ≤ (k : Int) := by omega
      have hwk : IntKind.u64.wrap (k : Int) = (k : Int) := conv_in _ (by omega) (by omega)
      have hll : (x.sofar k).length ≤ 100 := by have := H5.out; simp [LE.sofar]; omega
      have hcw := (HB.out.cell (p := ⟨g, off + k, none⟩) hgl).trans hce
      have HCW := Lib.hid hcw
      have hgw : g < wr.heap.size := by omega
      have hwl : w.heap.size < wr.heap.size := by omega
      have hgG : g ∉ G := fun hm => by have := HG.out g hm; omega
      have hbG : w.heap.size ∉ G := fun hm => by have := HG.out _ hm; omega
      have hHC := eleven HBX.out
      have HC := Lib.hid hHC
      clear hbk hce hcw hHC hF
      obtain ⟨k0, k1, _, _, k4, k5, k6, _, k8, _, _⟩ := HC.out
      simp only [LE.at] at k0 k1 k4 k5 k6 k8
      go_wp2_with fail
      clear k0 k1 k4 k5 k6 k8
      refine' wp_flow [only 0 _, only 1 _, only 2 _, only 3 _, only 4 _, only 5 _, only 6 _, only 7 _, only 8 _, only 9 _, only 10 _, only 11 _, only 12 _, only 13 _, only 14 _, only 15 _, only 16 _, only 17 _, own 18 (fun y v => ∃ b, y = .slice (some ⟨b, 0, none⟩) 1 1 ∧ wr.heap.size ≤ b ∧ v.heap[b]? = some (.cells (x.data k).cells.toArray 42 (0, 0))), own 19 (fun y v => ∃ G2 B2 d2, y = .slice B2 ((x.sofar k).length + 1) d2 ∧ Vec v G2 5 B2 ((x.sofar k).length + 1) d2 ((x.sofar k).flatMap Fr.cells ++ (x.data k).cells) ∧ ∀ j, j ∈ G2 → w.heap.size + 2 ≤ j), own 20 (fun y v => ∃ G2 B2 d2, y = .slice B2 ((x.sofar k).length + 1) d2 ∧ Vec v G2 5 B2 ((x.sofar k).length + 1) d2 ((x.sofar k).flatMap Fr.cells ++ (x.data k).cells) ∧ ∀ j, j ∈ G2 → w.heap.size + 2 ≤ j), (fun _ v => Vec v G 5 B (x.sofar k).length d ((x.sofar k).flatMap Fr.cells))] (fun v => Kept G wr v) [[], [], [1], [], [3], [], [5], [6], [4, 7], [], [9], [], [11], [], [13], [12, 14], [15], [2, 8, 10, 16], [17], [0, 18, 21], [19]] [[], [], [], [], [], [], [], [], [], [], [], [], [], [], [], [], [], [], [], [21, 18], []] [[20], [], [], [], [], [], [], [], [], [], [], [], [], [], [], [], [], [], [], [], []] [[18, 21], [21], [21], [21], [21], [21], [21], [21], [21], [21], [21], [21], [21], [21], [21], [21], [21], [21], [21], [], [19]] [18, 19, 20, 21] [0, 0, 2, 0, 8, 0, 32, 96, 248, 0, 512, 0, 2048, 0, 8192, 30720, 63488, 131070, 262142, 524287, 1048575] _ (fun us => ?hfr) (by kernel_rfl) (by kernel_rfl) (by kernel_rfl) ⟨only_still _, only_still _, only_still _, only_still _, only_still _, only_still _, only_still _, only_still _, only_still _, only_still _, only_still _, only_still _, only_still _, only_still _, only_still _, only_still _, only_still _, only_still _, trivial, trivial, trivial, trivial, trivial⟩ ((Kept.refl G wr).drew) (by simp) (HV.out.drew) ?hst ?hla
      case hfr => (simp only [List.cons_append, List.nil_append, putAll, Act.put, List.setIfInBounds_toArray, List.set_cons_zero, List.set_cons_succ, Nat.reduceAdd]; rfl)
      case hst =>
        refine ⟨?_, ?_, ?_, ?_, ?_, ?_, ?_, ?_, ?_, ?_, ?_, ?_, ?_, ?_, ?_, ?_, ?_, ?_, ?_, ?_, ?_, trivial⟩
        · intro us v hR hn ho K hK
          obtain ⟨o20, -⟩ := ho
          have n20 : us 20 = .slice B (x.sofar k).length d := o20
          clear o20
          have q := HC.out; have k0 := (hR.cell (p := ⟨w.heap.size, 0, none⟩) hwl hbG).trans q.c0; have k4 := (hR.cell (p := ⟨w.heap.size, 4, none⟩) hwl hbG).trans q.c4; have k5 := (hR.cell (p := ⟨w.heap.size, 5, none⟩) hwl hbG).trans q.c5; have k6 := (hR.cell (p := ⟨w.heap.size, 6, none⟩) hwl hbG).trans q.c6; have k8 := (hR.cell (p := ⟨w.heap.size, 8, none⟩) hwl hbG).trans q.c8; have kb := (hR.cell (p := ⟨g, off + k, none⟩) hgw hgG).trans HCW.out; simp only [LE.at] at k0 k4 k5 k6 k8; clear q
          rw [if_pos (by rfl)]
          go_simp
          refine hK _ _ _ (by simp only [Act.put, List.setIfInBounds_toArray, List.set_cons_zero, List.set_cons_succ, Nat.reduceAdd, n20] <;> rfl) ?_ hR ⟨fun h => h, fun h => h, trivial⟩
          refine only_mk (v := v) ?_
          with_reducible rfl
        · intro us v hR hn ho K hK
          clear ho
          have q := HC.out; have k0 := (hR.cell (p := ⟨w.heap.size, 0, none⟩) hwl hbG).trans q.c0; have k4 := (hR.cell (p := ⟨w.heap.size, 4, none⟩) hwl hbG).trans q.c4; have k5 := (hR.cell (p := ⟨w.heap.size, 5, none⟩) hwl hbG).trans q.c5; have k6 := (hR.cell (p := ⟨w.heap.size, 6, none⟩) hwl hbG).trans q.c6; have k8 := (hR.cell (p := ⟨w.heap.size, 8, none⟩) hwl hbG).trans q.c8; have kb := (hR.cell (p := ⟨g, off + k, none⟩) hgw hgG).trans HCW.out; simp only [LE.at] at k0 k4 k5 k6 k8; clear q
          rw [if_pos (by rfl)]
          go_simp
          refine hK _ _ _ (by simp only [Act.put, List.setIfInBounds_toArray, List.set_cons_zero, List.set_cons_succ, Nat.reduceAdd] <;> rfl) ?_ hR ⟨fun h => h, trivial⟩
          refine only_mk (v := v) ?_
          with_reducible rfl
        · intro us v hR hn ho K hK
          obtain ⟨n1, -⟩ := hn
          have n1 : us 1 = _ := n1
          clear ho
          have q := HC.out; have k0 := (hR.cell (p := ⟨w.heap.size, 0, none⟩) hwl hbG).trans q.c0; have k4 := (hR.cell (p := ⟨w.heap.size, 4, none⟩) hwl hbG).trans q.c4; have k5 := (hR.cell (p := ⟨w.heap.size, 5, none⟩) hwl hbG).trans q.c5; have k6 := (hR.cell (p := ⟨w.heap.size, 6, none⟩) hwl hbG).trans q.c6; have k8 := (hR.cell (p := ⟨w.heap.size, 8, none⟩) hwl hbG).trans q.c8; have kb := (hR.cell (p := ⟨g, off + k, none⟩) hgw hgG).trans HCW.out; simp only [LE.at] at k0 k4 k5 k6 k8; clear q
          rw [if_pos (by rfl)]
          go_simp
          refine hK _ _ _ (by simp only [Act.put, List.setIfInBounds_toArray, List.set_cons_zero, List.set_cons_succ, Nat.reduceAdd, n1] <;> rfl) ?_ hR ⟨fun h => h, trivial⟩
          refine only_mk (v := v) ?_
          with_reducible rfl
        · intro us v hR hn ho K hK
          clear ho
          have q := HC.out; have k0 := (hR.cell (p := ⟨w.heap.size, 0, none⟩) hwl hbG).trans q.c0; have k4 := (hR.cell (p := ⟨w.heap.size, 4, none⟩) hwl hbG).trans q.c4; have k5 := (hR.cell (p := ⟨w.heap.size, 5, none⟩) hwl hbG).trans q.c5; have k6 := (hR.cell (p := ⟨w.heap.size, 6, none⟩) hwl hbG).trans q.c6; have k8 := (hR.cell (p := ⟨w.heap.size, 8, none⟩) hwl hbG).trans q.c8; have kb := (hR.cell (p := ⟨g, off + k, none⟩) hgw hgG).trans HCW.out; simp only [LE.at] at k0 k4 k5 k6 k8; clear q
          rw [if_pos (by rfl)]
          go_simp
          refine hK _ _ _ (by simp only [Act.put, List.setIfInBounds_toArray, List.set_cons_zero, List.set_cons_succ, Nat.reduceAdd] <;> rfl) ?_ hR ⟨fun h => h, trivial⟩
          refine only_mk (v := v) ?_
          with_reducible rfl
        · intro us v hR hn ho K hK
          obtain ⟨n3, -⟩ := hn
          have n3 : us 3 = _ := n3
          clear ho
          have q := HC.out; have k0 := (hR.cell (p := ⟨w.heap.size, 0, none⟩) hwl hbG).trans q.c0; have k4 := (hR.cell (p := ⟨w.heap.size, 4, none⟩) hwl hbG).trans q.c4; have k5 := (hR.cell (p := ⟨w.heap.size, 5, none⟩) hwl hbG).trans q.c5; have k6 := (hR.cell (p := ⟨w.heap.size, 6, none⟩) hwl hbG).trans q.c6; have k8 := (hR.cell (p := ⟨w.heap.size, 8, none⟩) hwl hbG).trans q.c8; have kb := (hR.cell (p := ⟨g, off + k, none⟩) hgw hgG).trans HCW.out; simp only [LE.at] at k0 k4 k5 k6 k8; clear q
          rw [if_pos (by rfl)]
          go_simp
          refine hK _ _ _ (by simp only [Act.put, List.setIfInBounds_toArray, List.set_cons_zero, List.set_cons_succ, Nat.reduceAdd, n3] <;> rfl) ?_ hR ⟨fun h => h, trivial⟩
          refine only_mk (v := v) ?_
          with_reducible rfl
        · intro us v hR hn ho K hK
          clear ho
          have q := HC.out; have k0 := (hR.cell (p := ⟨w.heap.size, 0, none⟩) hwl hbG).trans q.c0; have k4 := (hR.cell (p := ⟨w.heap.size, 4, none⟩) hwl hbG).trans q.c4; have k5 := (hR.cell (p := ⟨w.heap.size, 5, none⟩) hwl hbG).trans q.c5; have k6 := (hR.cell (p := ⟨w.heap.size, 6, none⟩) hwl hbG).trans q.c6; have k8 := (hR.cell (p := ⟨w.heap.size, 8, none⟩) hwl hbG).trans q.c8; have kb := (hR.cell (p := ⟨g, off + k, none⟩) hgw hgG).trans HCW.out; simp only [LE.at] at k0 k4 k5 k6 k8; clear q
          rw [if_pos (by rfl)]
          go_simp
          refine hK _ _ _ (by simp only [Act.put, List.setIfInBounds_toArray, List.set_cons_zero, List.set_cons_succ, Nat.reduceAdd] <;> rfl) ?_ hR ⟨fun h => h, trivial⟩
          refine only_mk (v := v) ?_
          with_reducible rfl
        · intro us v hR hn ho K hK
          obtain ⟨n5, -⟩ := hn
          have n5 : us 5 = _ := n5
          clear ho
          have q := HC.out; have k0 := (hR.cell (p := ⟨w.heap.size, 0, none⟩) hwl hbG).trans q.c0; have k4 := (hR.cell (p := ⟨w.heap.size, 4, none⟩) hwl hbG).trans q.c4; have k5 := (hR.cell (p := ⟨w.heap.size, 5, none⟩) hwl hbG).trans q.c5; have k6 := (hR.cell (p := ⟨w.heap.size, 6, none⟩) hwl hbG).trans q.c6; have k8 := (hR.cell (p := ⟨w.heap.size, 8, none⟩) hwl hbG).trans q.c8; have kb := (hR.cell (p := ⟨g, off + k, none⟩) hgw hgG).trans HCW.out; simp only [LE.at] at k0 k4 k5 k6 k8; clear q
          rw [if_pos (by rfl)]
          go_simp
          refine hK _ _ _ (by simp only [Act.put, List.setIfInBounds_toArray, List.set_cons_zero, List.set_cons_succ, Nat.reduceAdd, n5] <;> rfl) ?_ hR ⟨fun h => h, trivial⟩
          refine only_mk (v := v) ?_
          with_reducible rfl
        · intro us v hR hn ho K hK
          obtain ⟨n6, -⟩ := hn
          have n6 : us 6 = _ := n6
          clear ho
          have q := HC.out; have k0 := (hR.cell (p := ⟨w.heap.size, 0, none⟩) hwl hbG).trans q.c0; have k4 := (hR.cell (p := ⟨w.heap.size, 4, none⟩) hwl hbG).trans q.c4; have k5 := (hR.cell (p := ⟨w.heap.size, 5, none⟩) hwl hbG).trans q.c5; have k6 := (hR.cell (p := ⟨w.heap.size, 6, none⟩) hwl hbG).trans q.c6; have k8 := (hR.cell (p := ⟨w.heap.size, 8, none⟩) hwl hbG).trans q.c8; have kb := (hR.cell (p := ⟨g, off + k, none⟩) hgw hgG).trans HCW.out; simp only [LE.at] at k0 k4 k5 k6 k8; clear q
          rw [if_pos (by rfl)]
          go_simp
          refine hK _ _ _ (by simp only [Act.put, List.setIfInBounds_toArray, List.set_cons_zero, List.set_cons_succ, Nat.reduceAdd, n6] <;> rfl) ?_ hR ⟨fun h => h, trivial⟩
          refine only_mk (v := v) ?_
          with_reducible rfl
        · intro us v hR hn ho K hK
          obtain ⟨n4, n7, -⟩ := hn
          have n4 : us 4 = _ := n4
          have n7 : us 7 = _ := n7
          clear ho
          have q := HC.out; have k0 := (hR.cell (p := ⟨w.heap.size, 0, none⟩) hwl hbG).trans q.c0; have k4 := (hR.cell (p := ⟨w.heap.size, 4, none⟩) hwl hbG).trans q.c4; have k5 := (hR.cell (p := ⟨w.heap.size, 5, none⟩) hwl hbG).trans q.c5; have k6 := (hR.cell (p := ⟨w.heap.size, 6, none⟩) hwl hbG).trans q.c6; have k8 := (hR.cell (p := ⟨w.heap.size, 8, none⟩) hwl hbG).trans q.c8; have kb := (hR.cell (p := ⟨g, off + k, none⟩) hgw hgG).trans HCW.out; simp only [LE.at] at k0 k4 k5 k6 k8; clear q
          rw [if_pos (by rfl)]
          go_simp
          refine hK _ _ _ (by simp only [Act.put, List.setIfInBounds_toArray, List.set_cons_zero, List.set_cons_succ, Nat.reduceAdd, n4, n7] <;> rfl) ?_ hR ⟨fun h => h, trivial⟩
          refine only_mk (v := v) ?_
          with_reducible rfl
        · intro us v hR hn ho K hK
          clear ho
          have q := HC.out; have k0 := (hR.cell (p := ⟨w.heap.size, 0, none⟩) hwl hbG).trans q.c0; have k4 := (hR.cell (p := ⟨w.heap.size, 4, none⟩) hwl hbG).trans q.c4; have k5 := (hR.cell (p := ⟨w.heap.size, 5, none⟩) hwl hbG).trans q.c5; have k6 := (hR.cell (p := ⟨w.heap.size, 6, none⟩) hwl hbG).trans q.c6; have k8 := (hR.cell (p := ⟨w.heap.size, 8, none⟩) hwl hbG).trans q.c8; have kb := (hR.cell (p := ⟨g, off + k, none⟩) hgw hgG).trans HCW.out; simp only [LE.at] at k0 k4 k5 k6 k8; clear q
          rw [if_pos (by rfl)]
          go_simp
          refine hK _ _ _ (by simp only [Act.put, List.setIfInBounds_toArray, List.set_cons_zero, List.set_cons_succ, Nat.reduceAdd] <;> rfl) ?_ hR ⟨fun h => h, trivial⟩
          refine only_mk (v := v) ?_
          with_reducible rfl
        · intro us v hR hn ho K hK
          obtain ⟨n9, -⟩ := hn
          have n9 : us 9 = _ := n9
          clear ho
          have q := HC.out; have k0 := (hR.cell (p := ⟨w.heap.size, 0, none⟩) hwl hbG).trans q.c0; have k4 := (hR.cell (p := ⟨w.heap.size, 4, none⟩) hwl hbG).trans q.c4; have k5 := (hR.cell (p := ⟨w.heap.size, 5, none⟩) hwl hbG).trans q.c5; have k6 := (hR.cell (p := ⟨w.heap.size, 6, none⟩) hwl hbG).trans q.c6; have k8 := (hR.cell (p := ⟨w.heap.size, 8, none⟩) hwl hbG).trans q.c8; have kb := (hR.cell (p := ⟨g, off + k, none⟩) hgw hgG).trans HCW.out; simp only [LE.at] at k0 k4 k5 k6 k8; clear q
          rw [if_pos (by rfl)]
          go_simp
          refine hK _ _ _ (by simp only [Act.put, List.setIfInBounds_toArray, List.set_cons_zero, List.set_cons_succ, Nat.reduceAdd, n9] <;> rfl) ?_ hR ⟨fun h => h, trivial⟩
          refine only_mk (v := v) ?_
          with_reducible rfl
        · intro us v hR hn ho K hK
          clear ho
          have q := HC.out; have k0 := (hR.cell (p := ⟨w.heap.size, 0, none⟩) hwl hbG).trans q.c0; have k4 := (hR.cell (p := ⟨w.heap.size, 4, none⟩) hwl hbG).trans q.c4; have k5 := (hR.cell (p := ⟨w.heap.size, 5, none⟩) hwl hbG).trans q.c5; have k6 := (hR.cell (p := ⟨w.heap.size, 6, none⟩) hwl hbG).trans q.c6; have k8 := (hR.cell (p := ⟨w.heap.size, 8, none⟩) hwl hbG).trans q.c8; have kb := (hR.cell (p := ⟨g, off + k, none⟩) hgw hgG).trans HCW.out; simp only [LE.at] at k0 k4 k5 k6 k8; clear q
          rw [if_pos (by rfl)]
          go_simp
          refine hK _ _ _ (by simp only [Act.put, List.setIfInBounds_toArray, List.set_cons_zero, List.set_cons_succ, Nat.reduceAdd] <;> rfl) ?_ hR ⟨fun h => h, trivial⟩
          refine only_mk (v := v) ?_
          with_reducible rfl
        · intro us v hR hn ho K hK
          obtain ⟨n11, -⟩ := hn
          have n11 : us 11 = _ := n11
          clear ho
          have q := HC.out; have k0 := (hR.cell (p := ⟨w.heap.size, 0, none⟩) hwl hbG).trans q.c0; have k4 := (hR.cell (p := ⟨w.heap.size, 4, none⟩) hwl hbG).trans q.c4; have k5 := (hR.cell (p := ⟨w.heap.size, 5, none⟩) hwl hbG).trans q.c5; have k6 := (hR.cell (p := ⟨w.heap.size, 6, none⟩) hwl hbG).trans q.c6; have k8 := (hR.cell (p := ⟨w.heap.size, 8, none⟩) hwl hbG).trans q.c8; have kb := (hR.cell (p := ⟨g, off + k, none⟩) hgw hgG).trans HCW.out; simp only [LE.at] at k0 k4 k5 k6 k8; clear q
          rw [if_pos (by rfl)]
          go_simp
          refine hK _ _ _ (by simp only [Act.put, List.setIfInBounds_toArray, List.set_cons_zero, List.set_cons_succ, Nat.reduceAdd, n11] <;> rfl) ?_ hR ⟨fun h => h, trivial⟩
          refine only_mk (v := v) ?_
          with_reducible rfl
        · intro us v hR hn ho K hK
          clear ho
          have q := HC.out; have k0 := (hR.cell (p := ⟨w.heap.size, 0, none⟩) hwl hbG).trans q.c0; have k4 := (hR.cell (p := ⟨w.heap.size, 4, none⟩) hwl hbG).trans q.c4; have k5 := (hR.cell (p := ⟨w.heap.size, 5, none⟩) hwl hbG).trans q.c5; have k6 := (hR.cell (p := ⟨w.heap.size, 6, none⟩) hwl hbG).trans q.c6; have k8 := (hR.cell (p := ⟨w.heap.size, 8, none⟩) hwl hbG).trans q.c8; have kb := (hR.cell (p := ⟨g, off + k, none⟩) hgw hgG).trans HCW.out; simp only [LE.at] at k0 k4 k5 k6 k8; clear q
          rw [if_pos (by rfl)]
          go_simp
          refine hK _ _ _ (by simp only [Act.put, List.setIfInBounds_toArray, List.set_cons_zero, List.set_cons_succ, Nat.reduceAdd] <;> rfl) ?_ hR ⟨fun h => h, trivial⟩
          refine only_mk (v := v) ?_
          with_reducible rfl
        · intro us v hR hn ho K hK
          obtain ⟨n13, -⟩ := hn
          have n13 : us 13 = _ := n13
          clear ho
          have q := HC.out; have k0 := (hR.cell (p := ⟨w.heap.size, 0, none⟩) hwl hbG).trans q.c0; have k4 := (hR.cell (p := ⟨w.heap.size, 4, none⟩) hwl hbG).trans q.c4; have k5 := (hR.cell (p := ⟨w.heap.size, 5, none⟩) hwl hbG).trans q.c5; have k6 := (hR.cell (p := ⟨w.heap.size, 6, none⟩) hwl hbG).trans q.c6; have k8 := (hR.cell (p := ⟨w.heap.size, 8, none⟩) hwl hbG).trans q.c8; have kb := (hR.cell (p := ⟨g, off + k, none⟩) hgw hgG).trans HCW.out; simp only [LE.at] at k0 k4 k5 k6 k8; clear q
          rw [if_pos (by rfl)]
          go_simp
          refine hK _ _ _ (by simp only [Act.put, List.setIfInBounds_toArray, List.set_cons_zero, List.set_cons_succ, Nat.reduceAdd, n13] <;> rfl) ?_ hR ⟨fun h => h, trivial⟩
          refine only_mk (v := v) ?_
          with_reducible rfl
        · intro us v hR hn ho K hK
          obtain ⟨n12, n14, -⟩ := hn
          have n12 : us 12 = _ := n12
          have n14 : us 14 = _ := n14
          clear ho
          have q := HC.out; have k0 := (hR.cell (p := ⟨w.heap.size, 0, none⟩) hwl hbG).trans q.c0; have k4 := (hR.cell (p := ⟨w.heap.size, 4, none⟩) hwl hbG).trans q.c4; have k5 := (hR.cell (p := ⟨w.heap.size, 5, none⟩) hwl hbG).trans q.c5; have k6 := (hR.cell (p := ⟨w.heap.size, 6, none⟩) hwl hbG).trans q.c6; have k8 := (hR.cell (p := ⟨w.heap.size, 8, none⟩) hwl hbG).trans q.c8; have kb := (hR.cell (p := ⟨g, off + k, none⟩) hgw hgG).trans HCW.out; simp only [LE.at] at k0 k4 k5 k6 k8; clear q
          rw [if_pos (by rfl)]
          go_simp
          refine hK _ _ _ (by simp only [Act.put, List.setIfInBounds_toArray, List.set_cons_zero, List.set_cons_succ, Nat.reduceAdd, n12, n14] <;> rfl) ?_ hR ⟨fun h => h, trivial⟩
          refine only_mk (v := v) ?_
          with_reducible rfl
        · intro us v hR hn ho K hK
          obtain ⟨n15, -⟩ := hn
          have n15 : us 15 = _ := n15
          clear ho
          have q := HC.out; have k0 := (hR.cell (p := ⟨w.heap.size, 0, none⟩) hwl hbG).trans q.c0; have k4 := (hR.cell (p := ⟨w.heap.size, 4, none⟩) hwl hbG).trans q.c4; have k5 := (hR.cell (p := ⟨w.heap.size, 5, none⟩) hwl hbG).trans q.c5; have k6 := (hR.cell (p := ⟨w.heap.size, 6, none⟩) hwl hbG).trans q.c6; have k8 := (hR.cell (p := ⟨w.heap.size, 8, none⟩) hwl hbG).trans q.c8; have kb := (hR.cell (p := ⟨g, off + k, none⟩) hgw hgG).trans HCW.out; simp only [LE.at] at k0 k4 k5 k6 k8; clear q
          rw [if_pos (by rfl)]
          go_simp
          refine hK _ _ _ (by simp only [Act.put, List.setIfInBounds_toArray, List.set_cons_zero, List.set_cons_succ, Nat.reduceAdd, n15] <;> rfl) ?_ hR ⟨fun h => h, trivial⟩
          refine only_mk (v := v) ?_
          with_reducible rfl
        · intro us v hR hn ho K hK
          obtain ⟨n2, n8, n10, n16, -⟩ := hn
          have n2 : us 2 = _ := n2
          have n8 : us 8 = _ := n8
          have n10 : us 10 = _ := n10
          have n16 : us 16 = _ := n16
          clear ho
          have q := HC.out; have k0 := (hR.cell (p := ⟨w.heap.size, 0, none⟩) hwl hbG).trans q.c0; have k4 := (hR.cell (p := ⟨w.heap.size, 4, none⟩) hwl hbG).trans q.c4; have k5 := (hR.cell (p := ⟨w.heap.size, 5, none⟩) hwl hbG).trans q.c5; have k6 := (hR.cell (p := ⟨w.heap.size, 6, none⟩) hwl hbG).trans q.c6; have k8 := (hR.cell (p := ⟨w.heap.size, 8, none⟩) hwl hbG).trans q.c8; have kb := (hR.cell (p := ⟨g, off + k, none⟩) hgw hgG).trans HCW.out; simp only [LE.at] at k0 k4 k5 k6 k8; clear q
          rw [if_pos (by rfl)]
          go_simp
          refine hK _ _ _ (by simp only [Act.put, List.setIfInBounds_toArray, List.set_cons_zero, List.set_cons_succ, Nat.reduceAdd, n2, n8, n10, n16] <;> rfl) ?_ hR ⟨fun h => h, trivial⟩
          refine only_mk (v := v) ?_
          with_reducible rfl
        · intro us v hR hn ho K hK
          obtain ⟨n17, -⟩ := hn
          have n17 : us 17 = _ := n17
          clear ho
          have q := HC.out; have k0 := (hR.cell (p := ⟨w.heap.size, 0, none⟩) hwl hbG).trans q.c0; have k4 := (hR.cell (p := ⟨w.heap.size, 4, none⟩) hwl hbG).trans q.c4; have k5 := (hR.cell (p := ⟨w.heap.size, 5, none⟩) hwl hbG).trans q.c5; have k6 := (hR.cell (p := ⟨w.heap.size, 6, none⟩) hwl hbG).trans q.c6; have k8 := (hR.cell (p := ⟨w.heap.size, 8, none⟩) hwl hbG).trans q.c8; have kb := (hR.cell (p := ⟨g, off + k, none⟩) hgw hgG).trans HCW.out; simp only [LE.at] at k0 k4 k5 k6 k8; clear q
          rw [if_pos (by rfl)]
          go_simp
          refine hK _ _ _ (by simp only [Act.put, List.setIfInBounds_toArray, List.set_cons_zero, List.set_cons_succ, Nat.reduceAdd, n17] <;> rfl) ⟨v.heap.size, rfl, hR.size, ?_⟩ (hR.alloc _) ⟨fun h => h.alloc _, trivial⟩
          exact heap_alloc_new v _
        · intro us v hR hn ho K hK
          obtain ⟨n0, n18, ns, -⟩ := hn
          have n0 : us 0 = _ := n0
          clear ho
          have q := HC.out; have k0 := (hR.cell (p := ⟨w.heap.size, 0, none⟩) hwl hbG).trans q.c0; have k4 := (hR.cell (p := ⟨w.heap.size, 4, none⟩) hwl hbG).trans q.c4; have k5 := (hR.cell (p := ⟨w.heap.size, 5, none⟩) hwl hbG).trans q.c5; have k6 := (hR.cell (p := ⟨w.heap.size, 6, none⟩) hwl hbG).trans q.c6; have k8 := (hR.cell (p := ⟨w.heap.size, 8, none⟩) hwl hbG).trans q.c8; have kb := (hR.cell (p := ⟨g, off + k, none⟩) hgw hgG).trans HCW.out; simp only [LE.at] at k0 k4 k5 k6 k8; clear q
          obtain ⟨b, n18, hb1, hb2⟩ := n18
          refine step_append_vec _ (by rfl) (.tmp 19) (.tmp 37) 32 32 (by rfl) 42 i0 _ 5 48 Try.underlying32 hi0 hz0 hz1 hz2 rfl G B (x.sofar k).length d _ _ 1 (x.data k).cells n0 n18 ns (src_new v Try.underlying32 (x.data k).cells 5 1 1 rfl (by simp [Fr.cells, Value.oneCell']) b hb2) (by unfold maxLen; omega) (by omega) ?_
          intro v7 w7 hap7
          obtain ⟨G2, B2, d2, rfl, hv5, ht5⟩ := hap7.all
          refine hK _ _ _ (by simp only [Act.put, List.setIfInBounds_toArray, List.set_cons_zero, List.set_cons_succ, Nat.reduceAdd, n0, n18] <;> rfl) ⟨G2, B2, d2, rfl, hv5, fun j hj => ?_⟩ (hR.trans ht5.kept) trivial
          rcases ht5.new j hj with hj | hj
          · exact HG.out j hj
          · have := hR.size; omega
        · intro us v hR hn ho K hK
          obtain ⟨n19, -⟩ := hn
          clear ho
          have q := HC.out; have k0 := (hR.cell (p := ⟨w.heap.size, 0, none⟩) hwl hbG).trans q.c0; have k4 := (hR.cell (p := ⟨w.heap.size, 4, none⟩) hwl hbG).trans q.c4; have k5 := (hR.cell (p := ⟨w.heap.size, 5, none⟩) hwl hbG).trans q.c5; have k6 := (hR.cell (p := ⟨w.heap.size, 6, none⟩) hwl hbG).trans q.c6; have k8 := (hR.cell (p := ⟨w.heap.size, 8, none⟩) hwl hbG).trans q.c8; have kb := (hR.cell (p := ⟨g, off + k, none⟩) hgw hgG).trans HCW.out; simp only [LE.at] at k0 k4 k5 k6 k8; clear q
          obtain ⟨G2, B2, d2, e19, hv2, hG2⟩ := n19
          rw [if_pos (by rfl)]
          go_simp
          refine hK _ _ _ (by simp only [Act.put, List.setIfInBounds_toArray, List.set_cons_zero, List.set_cons_succ, Nat.reduceAdd, e19] <;> rfl) ⟨G2, B2, d2, rfl, hv2, hG2⟩ hR ⟨fun h => h, trivial⟩
      case hla =>
        intro us v hR hl
        obtain ⟨n0, n1, n2, n3, n4, n5, n6, n7, n8, n9, n10, n11, n12, n13, n14, n15, n16, n17, n19, n20, -⟩ := need_last hl [0, 1, 2, 3, 4, 5, 6, 7, 8, 9, 10, 11, 12, 13, 14, 15, 16, 17, 19, 20] (by kernel_rfl)
        have n0 : us 0 = _ := n0
        have n1 : us 1 = _ := n1
        have n2 : us 2 = _ := n2
        have n3 : us 3 = _ := n3
        have n4 : us 4 = _ := n4
        have n5 : us 5 = _ := n5
        have n6 : us 6 = _ := n6
        have n7 : us 7 = _ := n7
        have n8 : us 8 = _ := n8
        have n9 : us 9 = _ := n9
        have n10 : us 10 = _ := n10
        have n11 : us 11 = _ := n11
        have n12 : us 12 = _ := n12
        have n13 : us 13 = _ := n13
        have n14 : us 14 = _ := n14
        have n15 : us 15 = _ := n15
        have n16 : us 16 = _ := n16
        have n17 : us 17 = _ := n17
        have q := HC.out; have k0 := (hR.cell (p := ⟨w.heap.size, 0, none⟩) hwl hbG).trans q.c0; have k4 := (hR.cell (p := ⟨w.heap.size, 4, none⟩) hwl hbG).trans q.c4; have k5 := (hR.cell (p := ⟨w.heap.size, 5, none⟩) hwl hbG).trans q.c5; have k6 := (hR.cell (p := ⟨w.heap.size, 6, none⟩) hwl hbG).trans q.c6; have k8 := (hR.cell (p := ⟨w.heap.size, 8, none⟩) hwl hbG).trans q.c8; have kb := (hR.cell (p := ⟨g, off + k, none⟩) hgw hgG).trans HCW.out; simp only [LE.at] at k0 k4 k5 k6 k8; clear q
        simp only [n0, n1, n2, n3, n4, n5, n6, n7, n8, n9, n10, n11, n12, n13, n14, n15, n16, n17]
        clear hl n0 n1 n2 n3 n4 n5 n6 n7 n8 n9 n10 n11 n12 n13 n14 n15 n16 n17
        obtain ⟨G2, B2, d2, e20, hv2, hG2⟩ := n20
        obtain ⟨_, _, _, e19, _⟩ := n19
        simp only [e19, e20]
        clear e19 e20
        have hbx2 := (hR.block w.heap.size hwl hbG).trans HBX.out
        obtain ⟨z1, z2⟩ := RefRel.step hk1 hlt hbx2 ((hR.block (w.heap.size + 1) hsz (fun hm => by have := HG.out _ hm; omega)).trans HRES.out) hv2 hG2 (HB.out.trans (hR.below HB.out.size (fun j hj => by have := HG.out _ hj; omega)))
        have Z1 := Lib.hid z1
        have Z2 := Lib.hid z2
        have y6 := cell_of_block hbx2 6
        have y7 := frozen_of_block hbx2 6
        simp [ends, LE.at] at y6
        clear z1 z2 hv2 hG2 hbx2 hR
        go_wp2_with fail
        go_roundw
        case rel => exact ⟨k + 1, Z1.out⟩
        case measure => rw [Z2.out, HMU.out]; omega
    · obtain rfl : k = x.most := by omega
      have hHC := eleven HBX.out
      have hHC0 := eleven0 HBX.out
      obtain ⟨k0, k1, k2, k3, k4, k5, k6, k7, k8, k9, k10⟩ := hHC
      simp only [LE.at] at k0 k1 k2 k3 k4 k5 k6 k7 k8 k9 k10
      have f7 := hHC0.c7
      clear hHC0
      have hcase : decide (x.most < x.window) = false ∨ (decide (x.most < x.window) = true ∧ decide (x.most < x.bodies.length) = false) := by
        have := H5.out
        by_cases c : x.most < x.window
        · exact .inr ⟨by simpa using c, by simp; omega⟩
        · exact .inl (by simpa using c)
      rcases hcase with hd | ⟨hd, hd2⟩
      all_goals
        go_upto_if 47 with fail
        go_cut [] (fun wx => wx.heap[w.heap.size]? = some (.cells (ends x.seen A c) 38 (0, 0)) ∧ Kept [w.heap.size] wr wx)
        case first =>
          by_cases he : x.ever < x.most
          · have hd3 : decide (x.ever < x.most) = true := by simpa using he
            go_wp2_with fail
            go_meet
            exact ⟨by rw [set_block HBX.out]; simp [ends, LE.at, LE.seen], (Kept.refl _ _).setCell (.inl (by simp)) _⟩
          · have hd3 : decide (x.ever < x.most) = false := by simpa using he
            have he2 : x.ever = x.most := by omega
            have HE := Lib.hid he2
            clear he2
            go_wp2_with fail
            go_meet
            exact ⟨by rw [HBX.out]; simp [ends, LE.at, LE.seen, HE.out], Kept.refl _ _⟩
        case rest =>
          obtain ⟨hbx3, hk3⟩ := hcut
          have hvc := HV.out.kept hk3 (fun j hj => by have := HG.out j hj; simp; omega)
          have hres3 := (hk3.block (w.heap.size + 1) hsz (by simp)).trans HRES.out
          have hb3 : Below w.heap.size w wc := HB.out.trans (hk3.below HB.out.size (by simp))
          unfold zero11 at hres3
          clear k0 k1 k2 k3 k4 k5 k6 k7 k8 k9 k10 f7
          obtain ⟨k0, k1, k2, k3, k4, k5, k6, k7, k8, k9, k10⟩ := eleven hbx3
          simp only [LE.seen] at k0 k1 k2 k3 k4 k5 k6 k7 k8 k9 k10
          have f9 := (eleven0 hbx3).c9
          have ⟨_, _, _, _, _, _, _, _, _, _, _⟩ := eleven hres3
          have ⟨_, _, _, _, _, _, _, _, _, _, _⟩ := eleven0 hres3
          have hlen : (x.sofar x.most).length = x.most - x.out := by simp [LE.sofar]
          have hcz : (((x.sofar x.most).length : Int) == 0) = false ∧ x.acks = [] ∨ (((x.sofar x.most).length : Int) == 0) = true ∧ x.owes = false ∧ x.acks = [] ∨ (((x.sofar x.most).length : Int) == 0) = true ∧ x.owes = true ∧ x.acks = [⟨2, x.epoch, 0, x.want, ⟨#[]⟩⟩] := by
            rcases Nat.lt_or_ge x.out x.most with hz | hz
            · exact .inl ⟨beq_eq_false_iff_ne.2 (by omega), by unfold LE.acks; rw [if_neg (by omega)]⟩
            · cases ho : x.owes
              · exact .inr (.inl ⟨by rw [beq_iff_eq]; omega, rfl, by unfold LE.acks; rw [if_neg (by simp [ho])]⟩)
              · exact .inr (.inr ⟨by rw [beq_iff_eq]; omega, rfl, by unfold LE.acks; rw [if_pos ⟨hz, ho⟩]⟩)
          have hll : (x.sofar x.most).length ≤ 100 := by have := H5.out; omega
          have HVC := Lib.hid hvc
          have HSZ := Lib.hid (Nat.lt_of_lt_of_le hsz hk3.size)
          have HRES3 := Lib.hid hres3
          have HB3 := Lib.hid hb3
          have HK3 := Lib.hid hk3
          have HBX3 := Lib.hid hbx3
          have HCZ := Lib.hid hcz
          clear hvc hres3 hb3 hk3 hbx3 hcz hlen
          rcases HCZ.out with ⟨z1, z2⟩ | ⟨z1, z2, z3⟩ | ⟨z1, z2, z3⟩
          · have hgo : x.sofar x.most = x.goes := by unfold LE.goes; rw [z2, List.append_nil]; rfl
            have HGO := Lib.hid hgo
            clear z2 hgo
            go_wp2_with fail
            have q := eleven_set ((set_other (w := wc) (p := ⟨w.heap.size, 9, none⟩) (g := w.heap.size + 1) (by simp) (.bool false)).trans HRES3.out) (.int .i64 x.epoch) (.int .i64 (x.window : Int)) (.int .i64 (x.queue : Int)) (.int .i64 (x.wait : Int)) (.slice A x.bodies.length c) (.int .u64 x.first) (.int .i64 (x.most : Int)) (.int .i64 (x.most : Int)) (.int .u64 x.want) (.bool false) (.int .i64 (x.age : Int))
            have hkf := ((Kept.refl _ wc).setCell (p := ⟨w.heap.size, 9, none⟩) (L := [w.heap.size, w.heap.size + 1]) (.inl (by simp)) (.bool false)).trans (q.2.mono (by simp))
            refine ret_row2 Try.results18 (w.heap.size + 1) _ _ _ _ rfl q.1 rfl Try.underlying38 rfl (by kernel_rfl) rfl ?_
            have hgo := HGO.out
            have hvf := (HVC.out).kept hkf (fun j hj => by have := HG.out j hj; simp; omega)
            refine ⟨B, d, G, ?_, ?_, fun j hj => by have := HG.out j hj; omega, (HB3.out).trans (hkf.below (HB3.out).size (by simp))⟩
            · rw [← hgo]; rfl
            · rw [← hgo]; exact hvf
          · have hgo : x.sofar x.most = x.goes := by unfold LE.goes; rw [z3, List.append_nil]; rfl
            have HGO := Lib.hid hgo
            rw [z2] at k9
            clear z2 z3 hgo
            go_wp2_with fail
            have q := eleven_set ((set_other (w := wc) (p := ⟨w.heap.size, 9, none⟩) (g := w.heap.size + 1) (by simp) (.bool false)).trans HRES3.out) (.int .i64 x.epoch) (.int .i64 (x.window : Int)) (.int .i64 (x.queue : Int)) (.int .i64 (x.wait : Int)) (.slice A x.bodies.length c) (.int .u64 x.first) (.int .i64 (x.most : Int)) (.int .i64 (x.most : Int)) (.int .u64 x.want) (.bool false) (.int .i64 (x.age : Int))
            have hkf := ((Kept.refl _ wc).setCell (p := ⟨w.heap.size, 9, none⟩) (L := [w.heap.size, w.heap.size + 1]) (.inl (by simp)) (.bool false)).trans (q.2.mono (by simp))
            refine ret_row2 Try.results18 (w.heap.size + 1) _ _ _ _ rfl q.1 rfl Try.underlying38 rfl (by kernel_rfl) rfl ?_
            have hgo := HGO.out
            have hvf := (HVC.out).kept hkf (fun j hj => by have := HG.out j hj; simp; omega)
            refine ⟨B, d, G, ?_, ?_, fun j hj => by have := HG.out j hj; omega, (HB3.out).trans (hkf.below (HB3.out).size (by simp))⟩
            · rw [← hgo]; rfl
            · rw [← hgo]; exact hvf
          · have hgo : x.sofar x.most ++ [⟨2, x.epoch, 0, x.want, ⟨#[]⟩⟩] = x.goes := by unfold LE.goes; rw [z3]; rfl
            have HGO := Lib.hid hgo
            rw [z2] at k9
            clear z2 z3 hgo
            go_wp2_with (at_builtin; (refine wpList_append_vec _ (by rfl) _ _ _ _ (by rfl) 42 i0 _ 5 48 Try.underlying32 hi0 hz0 hz1 hz2 rfl G B (x.sofar x.most).length d _ _ 1 [.int .i64 2, .int .i64 x.epoch, .int .u64 0, .int .u64 x.want, .string ⟨#[]⟩] (by rfl) (by rfl) (by exact HVC.out.alloc _) (by exact src_new _ Try.underlying32 [.int .i64 2, .int .i64 x.epoch, .int .u64 0, .int .u64 x.want, .string ⟨#[]⟩] 5 1 1 rfl (by simp [Value.oneCell']) _ (heap_alloc_new wc _)) (by unfold maxLen; omega) (by omega) ?_; intro v5 w5 happ; obtain ⟨G5, B5, d5, rfl, hv5, ht5⟩ := happ.all; obtain ⟨hg5, hbx5, hres5, hb5⟩ := ack_step HB3.out HSZ.out HG.out ht5 HBX3.out HRES3.out; have HB5 := Lib.hid hb5; have HV5 := Lib.hid hv5; have HG5 := Lib.hid hg5; have HRES5 := Lib.hid hres5; clear happ ht5 hv5 hg5 hb5; clear k0 k1 k2 k3 k4 k5 k6 k7 k8 k9 k10 f9; obtain ⟨k0, k1, k2, k3, k4, k5, k6, k7, k8, k9, k10⟩ := eleven hbx5; simp only [LE.seen] at k0 k1 k2 k3 k4 k5 k6 k7 k8 k9 k10; have f9 := (eleven0 hbx5).c9; have ⟨_, _, _, _, _, _, _, _, _, _, _⟩ := eleven hres5; have ⟨_, _, _, _, _, _, _, _, _, _, _⟩ := eleven0 hres5; clear hbx5 hres5))
            have q := eleven_set ((set_other (w := w5) (p := ⟨w.heap.size, 9, none⟩) (g := w.heap.size + 1) (by simp) (.bool false)).trans HRES5.out) (.int .i64 x.epoch) (.int .i64 (x.window : Int)) (.int .i64 (x.queue : Int)) (.int .i64 (x.wait : Int)) (.slice A x.bodies.length c) (.int .u64 x.first) (.int .i64 (x.most : Int)) (.int .i64 (x.most : Int)) (.int .u64 x.want) (.bool false) (.int .i64 (x.age : Int))
            have hkf := ((Kept.refl _ w5).setCell (p := ⟨w.heap.size, 9, none⟩) (L := [w.heap.size, w.heap.size + 1]) (.inl (by simp)) (.bool false)).trans (q.2.mono (by simp))
            refine ret_row2 Try.results18 (w.heap.size + 1) _ _ _ _ rfl q.1 rfl Try.underlying38 rfl (by kernel_rfl) rfl ?_
            have hgo := HGO.out
            have hvf := (HV5.out).kept hkf (fun j hj => by have := HG5.out j hj; simp; omega)
            refine ⟨B5, d5, G5, ?_, ?_, fun j hj => by have := HG5.out j hj; omega, (HB5.out).trans (hkf.below (HB5.out).size (by simp))⟩
            · rw [← hgo, List.length_append]; rfl
            · rw [← hgo, List.flatMap_append]; simpa [Fr.cells] using hvf
end Go.Proofs.Ytblaanohidldpaa.Link
