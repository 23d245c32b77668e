/- Layer 9: what lets frames out of an end in memory. Conditions: the end lies (EndIs), and is one that may be (Ok). -/
import Derived.Test.YtihhflajkohibaaDoorLinkC
import Derived.Outline
import Derived.Test.YtihhflajkohibaaDoorHeld
import Derived.Deep.RegionLaw
namespace Go.Proofs.YtihhflajkohibaaDoor.Link
set_option linter.unusedSimpArgs false
set_option linter.unusedVariables false
set_option maxRecDepth 100000
open Go.RowKit
def Fr.cells (f : Fr) : List Value := [.int .i64 f.kind, .int .i64 f.epoch, .int .u64 f.seq, .int .u64 f.ack, .string f.body]
theorem take_any {w : World} {p : Nat} {F : List Nat} {x : LE} (h : EndIs w p F x) (f : Fr) :
    Calls Tryd.prog 35 #[.pointer (some ⟨p, 0, none⟩), f.val] w fun e w' => e = .returned (.tuple #[.string (x.told f), .bool (x.isNext f)]) ∧ EndIs w' p F (x.taken f) ∧ Turns F F w w' := by
  cases hf : x.fits f
  · have e1 : x.isNext f = false := by simp [LE.isNext, hf]
    have e2 : x.told f = ⟨#[]⟩ := by unfold LE.told; rw [e1]; rfl
    have e3 : x.taken f = x := by unfold LE.taken; rw [hf]; rfl
    rw [e1, e2, e3]
    exact (take_no h f hf).mono fun _ _ ⟨he, hb⟩ => ⟨he, h.after hb, Turns.of_below hb _⟩
  · obtain ⟨k, ep, sq, ak, b⟩ := f
    simp only [LE.fits, Bool.and_eq_true, decide_eq_true_eq] at hf
    obtain ⟨h1, rfl⟩ := hf
    exact take_yes h k sq ak b h1
theorem frame_info : (Tryd.prog.info? 57).map (fun i => (i.zero, i.size, i.bytes)) = some (some (.agg #[.int .i64 0, .int .i64 0, .int .u64 0, .int .u64 0, .string ⟨#[]⟩]), 5, 48) := by kernel_rfl

/-- the row of frames that is being made, in its box -/
structure Row (w : World) (b : Nat) (G : List Nat) (l : List Fr) : Prop where
  lies : ∃ A c, w.heap[b]? = some (.cells #[.slice A l.length c] 64 (0, 0)) ∧ Vec w G 5 A l.length c (l.flatMap Fr.cells)
  apart : b ∉ G
theorem Row.keep {w w' : World} {b : Nat} {G : List Nat} {l : List Fr} (h : Row w b G l) (hs : w.heap.size ≤ w'.heap.size) (hb : w'.heap[b]? = w.heap[b]?) (hG : ∀ k, k ∈ G → w'.heap[k]? = w.heap[k]?) : Row w' b G l := by
  obtain ⟨A, c, h1, h2⟩ := h.lies
  exact ⟨⟨A, c, hb.trans h1, h2.keep hs hG⟩, h.apart⟩
theorem Row.drewN {w : World} {b : Nat} {G : List Nat} {l : List Fr} (h : Row w b G l) (n : Nat) : Row (w.drewN n) b G l := h.keep (Nat.le_refl _) rfl fun _ _ => rfl
theorem Lies.drewN {w : World} {p : Nat} {F : List Nat} {x : LE} (h : Lies w p F x) (n : Nat) : Lies (w.drewN n) p F x := h.keep (Nat.le_refl _) fun _ _ => rfl
set_option maxHeartbeats 1000000 in
theorem put_any {w : World} {p X b : Nat} {F G : List Nat} {x : LE} {l : List Fr} (h : Lies w p F x) (hr : Row w b G l) (hx : w.heap[X]? = some (.cells #[.pointer (some ⟨p, 0, none⟩)] 50 (0, 0))) (hl : l.length ≤ 100) (hXG : X ∉ G) (hpG : p ∉ G) (k sq : Int) (s : ByteArray) :
    Calls Tryd.prog 46 #[.int .i64 k, .int .u64 sq, .string s, .pointer (some ⟨b, 0, none⟩), .pointer (some ⟨X, 0, none⟩)] w fun e w' => e = .returned (.tuple #[]) ∧ ∃ G', Row w' b G' (l ++ [⟨k, x.epoch, sq, x.want, s⟩]) ∧ Turns (b :: G) (b :: G') w w' := by
  obtain ⟨A, c, G0, rfl, hn, hst, hv⟩ := h
  obtain ⟨A1, c1, hb1, hv1⟩ := hr.lies
  have hbG := hr.apart
  have c0 := cell_of_block hst 0
  have c8 := cell_of_block hst 8
  have d0 := cell_of_block hb1 0
  have e0 := cell_of_block hx 0
  have fb := frozen_of_block hb1 0
  simp [ends] at c0 c8 d0 e0
  have hbl := lt_of_block hb1
  obtain ⟨i0, hi0, hz0, hz1, hz2⟩ := info_parts frame_info
  have hv2 : Vec (w.alloc (.cells #[.int .i64 k, .int .i64 x.epoch, .int .u64 sq, .int .u64 x.want, .string s] 57)).drew G 5 A1 l.length c1 (l.flatMap Fr.cells) := (hv1.alloc _).drew
  have hs2 : Src Tryd.prog 5 64 (.slice (some ⟨w.heap.size, 0, none⟩) 1 1) 1 [.int .i64 k, .int .i64 x.epoch, .int .u64 sq, .int .u64 x.want, .string s] (w.alloc (.cells #[.int .i64 k, .int .i64 x.epoch, .int .u64 sq, .int .u64 x.want, .string s] 57)).drew :=
    src_new (w := (w.alloc _).drew) Tryd.underlying64 [.int .i64 k, .int .i64 x.epoch, .int .u64 sq, .int .u64 x.want, .string s] 5 1 1 rfl (by simp [Value.oneCell']) w.heap.size (heap_alloc_new w _)
  have HV := Lib.hid hv2
  have HS := Lib.hid hs2
  clear hv2 hs2
  go_enter Tryd.func46, Tryd.ntmps46
  go_wp2_with fail
  refine wp_region_last (fun w' => w'.cell? ⟨b, 0, none⟩ = some (.slice A1 l.length c1) ∧ w'.cell? ⟨X, 0, none⟩ = some (.pointer (some ⟨p, 0, none⟩)) ∧ w'.cell? ⟨p, 0, none⟩ = some (.int .i64 x.epoch) ∧ w'.cell? ⟨p, 8, none⟩ = some (.int .u64 x.want)) 15 (by kernel_rfl) ?_
  refine AnyL.take (i := 0) (u := ?_) rfl (by kernel_rfl) (by kernel_rfl) (by kernel_rfl) (fun _ _ _ h => h) (by kernel_rfl) (by kernel_rfl) (Or.inl ⟨by rfl, ?_⟩) ⟨d0, e0, c0, c8⟩ ?_
  rotate_left
  · (intro w9 hSw; (try dsimp only at hSw); go_simp; (try with_reducible rfl))
  try simp only [Act.put, List.setIfInBounds_toArray, List.set_cons_zero, List.set_cons_succ]
  refine AnyL.take (i := 1) (u := ?_) rfl (by kernel_rfl) (by kernel_rfl) (by kernel_rfl) (fun _ _ _ h => h) (by kernel_rfl) (by kernel_rfl) (Or.inl ⟨by rfl, ?_⟩) ⟨d0, e0, c0, c8⟩ ?_
  rotate_left
  · (intro w9 hSw; (try dsimp only at hSw); go_simp; (try with_reducible rfl))
  try simp only [Act.put, List.setIfInBounds_toArray, List.set_cons_zero, List.set_cons_succ]
  refine AnyL.take (i := 2) (u := ?_) rfl (by kernel_rfl) (by kernel_rfl) (by kernel_rfl) (fun _ _ _ h => h) (by kernel_rfl) (by kernel_rfl) (Or.inl ⟨by rfl, ?_⟩) ⟨d0, e0, c0, c8⟩ ?_
  rotate_left
  · (intro w9 hSw; (try dsimp only at hSw); go_simp; (try with_reducible rfl))
  try simp only [Act.put, List.setIfInBounds_toArray, List.set_cons_zero, List.set_cons_succ]
  refine AnyL.take (i := 3) (u := ?_) rfl (by kernel_rfl) (by kernel_rfl) (by kernel_rfl) (fun _ _ _ h => h) (by kernel_rfl) (by kernel_rfl) (Or.inl ⟨by rfl, ?_⟩) ⟨d0, e0, c0, c8⟩ ?_
  rotate_left
  · (intro w9 hSw; (try dsimp only at hSw); go_simp; (try with_reducible rfl))
  try simp only [Act.put, List.setIfInBounds_toArray, List.set_cons_zero, List.set_cons_succ]
  refine AnyL.take (i := 4) (u := ?_) rfl (by kernel_rfl) (by kernel_rfl) (by kernel_rfl) (fun _ _ _ h => h) (by kernel_rfl) (by kernel_rfl) (Or.inl ⟨by rfl, ?_⟩) ⟨d0, e0, c0, c8⟩ ?_
  rotate_left
  · (intro w9 hSw; (try dsimp only at hSw); go_simp; (try with_reducible rfl))
  try simp only [Act.put, List.setIfInBounds_toArray, List.set_cons_zero, List.set_cons_succ]
  refine AnyL.take (i := 5) (u := ?_) rfl (by kernel_rfl) (by kernel_rfl) (by kernel_rfl) (fun _ _ _ h => h) (by kernel_rfl) (by kernel_rfl) (Or.inl ⟨by rfl, ?_⟩) ⟨d0, e0, c0, c8⟩ ?_
  rotate_left
  · (intro w9 hSw; (try dsimp only at hSw); go_simp; (try with_reducible rfl))
  try simp only [Act.put, List.setIfInBounds_toArray, List.set_cons_zero, List.set_cons_succ]
  refine AnyL.take (i := 6) (u := ?_) rfl (by kernel_rfl) (by kernel_rfl) (by kernel_rfl) (fun _ _ _ h => h) (by kernel_rfl) (by kernel_rfl) (Or.inl ⟨by rfl, ?_⟩) ⟨d0, e0, c0, c8⟩ ?_
  rotate_left
  · (intro w9 hSw; (try dsimp only at hSw); go_simp; (try with_reducible rfl))
  try simp only [Act.put, List.setIfInBounds_toArray, List.set_cons_zero, List.set_cons_succ]
  refine AnyL.take (i := 7) (u := ?_) rfl (by kernel_rfl) (by kernel_rfl) (by kernel_rfl) (fun _ _ _ h => h) (by kernel_rfl) (by kernel_rfl) (Or.inl ⟨by rfl, ?_⟩) ⟨d0, e0, c0, c8⟩ ?_
  rotate_left
  · (intro w9 hSw; (try dsimp only at hSw); go_simp; (try with_reducible rfl))
  try simp only [Act.put, List.setIfInBounds_toArray, List.set_cons_zero, List.set_cons_succ]
  refine AnyL.take (i := 8) (u := ?_) rfl (by kernel_rfl) (by kernel_rfl) (by kernel_rfl) (fun _ _ _ h => h) (by kernel_rfl) (by kernel_rfl) (Or.inl ⟨by rfl, ?_⟩) ⟨d0, e0, c0, c8⟩ ?_
  rotate_left
  · (intro w9 hSw; (try dsimp only at hSw); go_simp; (try with_reducible rfl))
  try simp only [Act.put, List.setIfInBounds_toArray, List.set_cons_zero, List.set_cons_succ]
  refine AnyL.take (i := 9) (u := ?_) rfl (by kernel_rfl) (by kernel_rfl) (by kernel_rfl) (fun _ _ _ h => h) (by kernel_rfl) (by kernel_rfl) (Or.inl ⟨by rfl, ?_⟩) ⟨d0, e0, c0, c8⟩ ?_
  rotate_left
  · (intro w9 hSw; (try dsimp only at hSw); go_simp; (try with_reducible rfl))
  try simp only [Act.put, List.setIfInBounds_toArray, List.set_cons_zero, List.set_cons_succ]
  refine AnyL.take (i := 10) (u := ?_) rfl (by kernel_rfl) (by kernel_rfl) (by kernel_rfl) (fun _ _ _ h => h) (by kernel_rfl) (by kernel_rfl) (Or.inl ⟨by rfl, ?_⟩) ⟨d0, e0, c0, c8⟩ ?_
  rotate_left
  · (intro w9 hSw; (try dsimp only at hSw); go_simp; (try with_reducible rfl))
  try simp only [Act.put, List.setIfInBounds_toArray, List.set_cons_zero, List.set_cons_succ]
  refine AnyL.take (i := 11) (u := ?_) rfl (by kernel_rfl) (by kernel_rfl) (by kernel_rfl) (fun _ _ _ h => h) (by kernel_rfl) (by kernel_rfl) (Or.inl ⟨by rfl, ?_⟩) ⟨d0, e0, c0, c8⟩ ?_
  rotate_left
  · (intro w9 hSw; (try dsimp only at hSw); go_simp; (try with_reducible rfl))
  try simp only [Act.put, List.setIfInBounds_toArray, List.set_cons_zero, List.set_cons_succ]
  refine AnyL.take (i := 12) (u := ?_) rfl (by kernel_rfl) (by kernel_rfl) (by kernel_rfl) (fun _ _ _ h => h) (by kernel_rfl) (by kernel_rfl) (Or.inl ⟨by rfl, ?_⟩) ⟨d0, e0, c0, c8⟩ ?_
  rotate_left
  · (intro w9 hSw; (try dsimp only at hSw); go_simp; (try with_reducible rfl))
  try simp only [Act.put, List.setIfInBounds_toArray, List.set_cons_zero, List.set_cons_succ]
  refine AnyL.only (i := 13) (by kernel_rfl) rfl (fun K hK => ?_)
  go_simp
  refine hK _ _ (fun _ => ⟨?_, ?_, ?_, ?_⟩) (fun _ => ?_)
  · exact (World.cell?_alloc_lt _ _ _ (by exact hbl)).trans d0
  · exact (World.cell?_alloc_lt _ _ _ (by exact lt_of_block hx)).trans e0
  · exact (World.cell?_alloc_lt _ _ _ (by exact lt_of_block hst)).trans c0
  · exact (World.cell?_alloc_lt _ _ _ (by exact lt_of_block hst)).trans c8
  clear hK K
  refine AnyL.only (i := 14) (by kernel_rfl) rfl (fun K hK => ?_)
  refine step_append_vec _ (by rfl) _ _ _ _ (by rfl) 57 i0 _ 5 48 Tryd.underlying64 hi0 hz0 hz1 hz2 rfl G A1 l.length c1 (l.flatMap Fr.cells) _ 1 [.int .i64 k, .int .i64 x.epoch, .int .u64 sq, .int .u64 x.want, .string s] (by rfl) (by rfl) (by exact HV.out) (by exact HS.out) (by unfold maxLen; omega) (by omega) ?_
  intro v' w1 happ
  obtain ⟨G', A', c', rfl, hv', ht⟩ := happ.all
  have k0 := (ht.kept.cell (p := ⟨b, 0, none⟩) (by simp; omega) (by exact hbG)).trans ((World.cell?_alloc_lt _ _ _ (by exact hbl)).trans d0)
  have f0 := (ht.kept.frozen (p := ⟨b, 0, none⟩) (by simp; omega) (by exact hbG)).trans ((World.frozen?_alloc_past _ _ _ (by exact hbl)).trans fb)
  refine hK _ _ (fun _ => ⟨k0, ?_, ?_, ?_⟩) (fun _ => ?_)
  · exact (ht.kept.cell (p := ⟨X, 0, none⟩) (by have := lt_of_block hx; simp; omega) (by exact hXG)).trans ((World.cell?_alloc_lt _ _ _ (by exact lt_of_block hx)).trans e0)
  · exact (ht.kept.cell (p := ⟨p, 0, none⟩) (by have := lt_of_block hst; simp; omega) (by exact hpG)).trans ((World.cell?_alloc_lt _ _ _ (by exact lt_of_block hst)).trans c0)
  · exact (ht.kept.cell (p := ⟨p, 8, none⟩) (by have := lt_of_block hst; simp; omega) (by exact hpG)).trans ((World.cell?_alloc_lt _ _ _ (by exact lt_of_block hst)).trans c8)
  clear hK K
  refine AnyL.only (i := 15) (by kernel_rfl) rfl (fun K hK => ?_)
  go_simp
  refine hK _ _ (fun h => absurd rfl h) (fun _ => ?_)
  refine AnyL.done (by kernel_rfl) ?_
  go_wp2
  go_end0
  have hst1 := (ht.kept.block b (by simp; omega) hbG).trans ((Below.heap_alloc w (.cells #[.int .i64 k, .int .i64 x.epoch, .int .u64 sq, .int .u64 x.want, .string s] 57) b hbl).trans hb1)
  have hbG' : b ∉ G' := ht.apart (by simp; omega) hbG
  have hlen : (l ++ [(⟨k, x.epoch, sq, x.want, s⟩ : Fr)]).length = l.length + 1 := by simp
  refine ⟨rfl, G', ⟨⟨A', c', ?_, ?_⟩, hbG'⟩, (Turns.of_below (below_drewN ((Below.refl w.heap.size w).alloc (Nat.le_refl _) (.cells #[.int .i64 k, .int .i64 x.epoch, .int .u64 sq, .int .u64 x.want, .string s] 57)) 1) _).trans ((ht.cons b).trans ⟨(Kept.refl _ _).setCell (p := ⟨b, 0, none⟩) (.inl (by simp)) _, fun _ h => .inl h⟩)⟩
  · rw [set_block hst1, hlen]; rfl
  · rw [hlen]
    have := hv'.setCell (p := ⟨b, 0, none⟩) hbG' (.slice A' (l.length + 1) c')
    simpa [List.flatMap_append, Fr.cells] using this
end Go.Proofs.YtihhflajkohibaaDoor.Link
