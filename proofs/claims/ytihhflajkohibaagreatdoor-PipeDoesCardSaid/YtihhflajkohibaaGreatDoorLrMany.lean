/- Layer 9, the reference: an end as a value: what each function makes of it. Conditions: the value's row lies (Vec), and the end is one that may be (Ok). -/
import Derived.Test.YtihhflajkohibaaGreatDoorLinkSame
import Derived.Test.YtihhflajkohibaaGreatDoorWhole
import Derived.Test.YtihhflajkohibaaGreatDoorFlow
namespace Go.Proofs.YtihhflajkohibaaGreatDoor.Link
set_option linter.unusedSimpArgs false
set_option linter.unusedVariables false
set_option maxRecDepth 100000
open Go.RowKit
theorem agg_new {epoch first window queue wait a b c : Int} (ha : a = ((clampN window 1 8 : Nat) : Int)) (hb : b = ((clampN queue 0 64 : Nat) : Int)) (hc : c = ((clampN wait 1 100 : Nat) : Int)) :
    Ending.returned (.agg #[.int .i64 epoch, .int .i64 a, .int .i64 b, .int .i64 c, .slice none 0 0, .int .u64 first, .int .i64 0, .int .i64 0, .int .u64 first, .bool false, .int .i64 0]) = .returned (.agg (ends (new epoch first window queue wait) none 0)) := by
  subst ha; subst hb; subst hc; rfl
set_option maxHeartbeats 8000000 in
theorem ref_new (epoch first window queue wait : Int) (w : World) :
    Calls Tryz.prog 32 #[.int .i64 epoch, .int .u64 first, .int .i64 window, .int .i64 queue, .int .i64 wait] w fun e w' => e = .returned (.agg (ends (new epoch first window queue wait) none 0)) ∧ Below w.heap.size w w' := by
  have h1 : ((clampN window 1 8 : Nat) : Int) = min (max window 1) 8 := by unfold clampN; omega
  have h2 : ((clampN queue 0 64 : Nat) : Int) = min (max queue 0) 64 := by unfold clampN; omega
  have h3 : ((clampN wait 1 100 : Nat) : Int) = min (max wait 1) 100 := by unfold clampN; omega
  have H1 := Lib.hid h1
  have H2 := Lib.hid h2
  have H3 := Lib.hid h3
  clear h1 h2 h3
  go_enter Tryz.func32, Tryz.ntmps32
  go_wp2
  all_goals
    exact bodyPost_ret (v := .agg #[.int .i64 epoch, .int .i64 _, .int .i64 _, .int .i64 _, .slice none 0 0, .int .u64 first, .int .i64 0, .int .i64 0, .int .u64 first, .bool false, .int .i64 0]) (by simp [results, Tryz.results32, go_sem]; exact ⟨rfl, rfl, rfl⟩) rfl ⟨agg_new (by rw [H1.out]; omega) (by rw [H2.out]; omega) (by rw [H3.out]; omega), (Below.refl _ _).alloc (Nat.le_refl _) _⟩
set_option maxHeartbeats 2000000 in
theorem ref_tick {w : World} {x : LE} (hx : x.Ok) (A : Option Addr) (c : Nat) :
    Calls Tryz.prog 46 #[.agg (ends x A c)] w fun e w' => e = .returned (.agg (ends x.ticked A c)) ∧ Below w.heap.size w w' := by
  have h1 := hx.t1
  have h2 := hx.age
  have h3 := hx.t100
  unfold ends
  by_cases ho : x.out = 0
  · have hd : decide (0 < x.out) = false := by simp [ho]
    have e1 : x.ticked = x := by unfold LE.ticked; rw [if_pos ho]
    rw [e1]
    clear e1 ho
    go_enter Tryz.func46, Tryz.ntmps46
    go_wp2
    exact bodyPost_ret (v := _) (by simp [results, Tryz.results46, go_sem]; rfl) rfl ⟨ret_eq (by simp), ((Below.refl _ _).alloc (Nat.le_refl _) _).alloc (by simp) _⟩
  · have hd : decide (0 < x.out) = true := by simp; omega
    by_cases hw : x.wait ≤ x.age + 1
    · have hd2 : ((x.age : Int) + 1 == (x.wait : Int)) = true := by rw [beq_iff_eq]; omega
      have e1 : x.ticked = { x with out := 0, age := 0 } := by unfold LE.ticked; rw [if_neg ho, if_pos hw]
      rw [e1]
      clear e1 ho hw
      go_enter Tryz.func46, Tryz.ntmps46
      go_wp2
      exact bodyPost_ret (v := _) (by simp [results, Tryz.results46, go_sem]; rfl) rfl ⟨ret_eq (by simp), ((Below.refl _ _).alloc (Nat.le_refl _) _).alloc (by simp) _⟩
    · have hd2 : ((x.age : Int) + 1 == (x.wait : Int)) = false := by rw [beq_eq_false_iff_ne]; omega
      have e1 : x.ticked = { x with age := x.age + 1 } := by unfold LE.ticked; rw [if_neg ho, if_neg hw]
      rw [e1]
      clear e1 ho hw
      go_enter Tryz.func46, Tryz.ntmps46
      go_wp2
      exact bodyPost_ret (v := _) (by simp [results, Tryz.results46, go_sem]; rfl) rfl ⟨ret_eq (by simp), ((Below.refl _ _).alloc (Nat.le_refl _) _).alloc (by simp) _⟩
theorem vec_empty (w : World) (e : TypeId) (size g : Nat) (hg : w.heap.size = g) : Vec (w.alloc (.cells #[] e)) [g] size (some ⟨g, 0, none⟩) 0 0 [] := by
  subst hg
  have h := Vec.of_new (w := w.alloc (.cells #[] e)) (e := e) (g := w.heap.size) #[] size 0 0 (Nat.le_refl _) (Nat.zero_le _) (by simp) (heap_alloc_new w _)
  simpa using h
/-- the bodies of an end as a value: where there are any, they lie -/
structure Low (w : World) (G : List Nat) (x : LE) (A : Option Addr) (c : Nat) : Prop where
  le : x.bodies.length ≤ c
  max : c ≤ maxLen
  some_ : x.bodies ≠ [] → Vec w G 1 A x.bodies.length c (x.bodies.map .string)
section
variable {w w' : World} {G : List Nat} {x y : LE} {A : Option Addr} {c : Nat}
theorem Low.of_vec (h : Vec w G 1 A x.bodies.length c (x.bodies.map .string)) : Low w G x A c := ⟨h.le, h.max, fun _ => h⟩
theorem Low.keep (h : Low w G x A c) (hs : w.heap.size ≤ w'.heap.size) (hb : ∀ k, k ∈ G → w'.heap[k]? = w.heap[k]?) : Low w' G x A c := ⟨h.le, h.max, fun hn => (h.some_ hn).keep hs hb⟩
theorem Low.alloc (h : Low w G x A c) (o : Obj) : Low (w.alloc o) G x A c := ⟨h.le, h.max, fun hn => (h.some_ hn).alloc o⟩
theorem Low.after (h : Low w G x A c) (hb : Below w.heap.size w w') : Low w' G x A c := ⟨h.le, h.max, fun hn => (h.some_ hn).after hb⟩
theorem Low.kept {L : List Nat} (h : Low w G x A c) (hk : Kept L w w') (hL : ∀ k, k ∈ G → k ∉ L) : Low w' G x A c := ⟨h.le, h.max, fun hn => (h.some_ hn).kept hk hL⟩
theorem Low.drewN (h : Low w G x A c) (n : Nat) : Low (w.drewN n) G x A c := ⟨h.le, h.max, fun hn => (h.some_ hn).drewN n⟩
theorem Low.drew (h : Low w G x A c) : Low w.drew G x A c := ⟨h.le, h.max, fun hn => (h.some_ hn).drew⟩
theorem Low.same (h : Low w G x A c) (e : y.bodies = x.bodies) : Low w G y A c := ⟨by rw [e]; exact h.le, h.max, by rw [e]; exact h.some_⟩
theorem Low.src (h : Low w G x A c) : Src Tryz.prog 1 28 (.slice A x.bodies.length c) x.bodies.length (x.bodies.map .string) w := by
  by_cases hn : x.bodies = []
  · rw [hn]
    cases A with
    | none => exact Src.ofNil w Tryz.underlying28 c
    | some a => exact Src.ofSlice w Tryz.underlying28 a 0 c [] rfl (by simp) (by simp)
  · exact (h.some_ hn).src Tryz.underlying28 (by simp [Value.oneCell'])
end
/-- two appends in a row, the first one to a new slice: what was there ahead of them stays -/
theorem two_app {w0 w1 w2 : World} {F F1 F2 : List Nat} {B : Nat} {o : Obj} (h1 : Turns F F1 w0 w1) (h2 : Turns F1 F2 (w1.alloc o) w2) (hB : B ≤ w0.heap.size) (hF : ∀ j, j ∈ F → B ≤ j) : Below B w0 w2 ∧ ∀ j, j ∈ F2 → B ≤ j := by
  obtain ⟨k1, k2⟩ := h1.below hB hF
  have hs := h1.kept.size
  obtain ⟨k3, k4⟩ := h2.below (B := B) (by simp; omega) k2
  exact ⟨(k1.alloc (by omega) o).trans k3, k4⟩
/-- eleven cells of a block -/
structure Eleven (w : World) (b : Nat) (a0 a1 a2 a3 a4 a5 a6 a7 a8 a9 a10 : Value) : Prop where
  c0 : w.cell? ⟨b, 0, none⟩ = some a0
  c1 : w.cell? ⟨b, 1, none⟩ = some a1
  c2 : w.cell? ⟨b, 2, none⟩ = some a2
  c3 : w.cell? ⟨b, 3, none⟩ = some a3
  c4 : w.cell? ⟨b, 4, none⟩ = some a4
  c5 : w.cell? ⟨b, 5, none⟩ = some a5
  c6 : w.cell? ⟨b, 6, none⟩ = some a6
  c7 : w.cell? ⟨b, 7, none⟩ = some a7
  c8 : w.cell? ⟨b, 8, none⟩ = some a8
  c9 : w.cell? ⟨b, 9, none⟩ = some a9
  c10 : w.cell? ⟨b, 10, none⟩ = some a10
theorem eleven {w : World} {b : Nat} {t : TypeId} {a0 a1 a2 a3 a4 a5 a6 a7 a8 a9 a10 : Value} (h : w.heap[b]? = some (.cells #[a0, a1, a2, a3, a4, a5, a6, a7, a8, a9, a10] t (0, 0))) : Eleven w b a0 a1 a2 a3 a4 a5 a6 a7 a8 a9 a10 := by
  constructor <;> (rw [cell_of_block h]; rfl)
structure Eleven0 (w : World) (b : Nat) : Prop where
  c0 : w.frozen? ⟨b, 0, none⟩ = false
  c1 : w.frozen? ⟨b, 1, none⟩ = false
  c2 : w.frozen? ⟨b, 2, none⟩ = false
  c3 : w.frozen? ⟨b, 3, none⟩ = false
  c4 : w.frozen? ⟨b, 4, none⟩ = false
  c5 : w.frozen? ⟨b, 5, none⟩ = false
  c6 : w.frozen? ⟨b, 6, none⟩ = false
  c7 : w.frozen? ⟨b, 7, none⟩ = false
  c8 : w.frozen? ⟨b, 8, none⟩ = false
  c9 : w.frozen? ⟨b, 9, none⟩ = false
  c10 : w.frozen? ⟨b, 10, none⟩ = false
theorem eleven0 {w : World} {b : Nat} {t : TypeId} {cs : Array Value} (h : w.heap[b]? = some (.cells cs t (0, 0))) : Eleven0 w b := by
  constructor <;> exact frozen_of_block h _
theorem eleven_set {w : World} {g : Nat} {T : TypeId} {o0 o1 o2 o3 o4 o5 o6 o7 o8 o9 o10 : Value} (h : w.heap[g]? = some (.cells #[o0, o1, o2, o3, o4, o5, o6, o7, o8, o9, o10] T (0, 0))) (a0 a1 a2 a3 a4 a5 a6 a7 a8 a9 a10 : Value) :
    (((((((((((w.setCell ⟨g, 0, none⟩ a0).setCell ⟨g, 1, none⟩ a1).setCell ⟨g, 2, none⟩ a2).setCell ⟨g, 3, none⟩ a3).setCell ⟨g, 4, none⟩ a4).setCell ⟨g, 5, none⟩ a5).setCell ⟨g, 6, none⟩ a6).setCell ⟨g, 7, none⟩ a7).setCell ⟨g, 8, none⟩ a8).setCell ⟨g, 9, none⟩ a9).setCell ⟨g, 10, none⟩ a10).heap[g]? = some (.cells #[a0, a1, a2, a3, a4, a5, a6, a7, a8, a9, a10] T (0, 0)) ∧ Kept [g] w (((((((((((w.setCell ⟨g, 0, none⟩ a0).setCell ⟨g, 1, none⟩ a1).setCell ⟨g, 2, none⟩ a2).setCell ⟨g, 3, none⟩ a3).setCell ⟨g, 4, none⟩ a4).setCell ⟨g, 5, none⟩ a5).setCell ⟨g, 6, none⟩ a6).setCell ⟨g, 7, none⟩ a7).setCell ⟨g, 8, none⟩ a8).setCell ⟨g, 9, none⟩ a9).setCell ⟨g, 10, none⟩ a10) := by
  refine ⟨?_, ((((((((((((Kept.refl _ _).setCell (.inl (by simp)) _).setCell (.inl (by simp)) _).setCell (.inl (by simp)) _).setCell (.inl (by simp)) _).setCell (.inl (by simp)) _).setCell (.inl (by simp)) _).setCell (.inl (by simp)) _).setCell (.inl (by simp)) _).setCell (.inl (by simp)) _).setCell (.inl (by simp)) _).setCell (.inl (by simp)) _)⟩
  have k := (set_block (set_block (set_block (set_block (set_block (set_block (set_block (set_block (set_block (set_block (set_block h 0 a0) 1 a1) 2 a2) 3 a3) 4 a4) 5 a5) 6 a6) 7 a7) 8 a8) 9 a9) 10 a10)
  simpa using k
set_option maxHeartbeats 4000000 in
theorem ref_send {w : World} {x : LE} {G : List Nat} {A : Option Addr} {c : Nat} (h : Low w G x A c) (hx : x.Ok) (b : ByteArray) :
    Calls Tryz.prog 36 #[.agg (ends x A c), .string b] w fun e w' => ∃ A' c' G', e = .returned (.tuple #[.agg (ends (x.sent b) A' c'), .int .i64 (x.sendE b)]) ∧
      Low w' G' (x.sent b) A' c' ∧ (∀ k, k ∈ G' → k ∈ G ∨ w.heap.size ≤ k) ∧ Below w.heap.size w w' := by
  have hq := hx.q64
  have hle := hx.len
  obtain ⟨i0, hi0, hz0, hz1, hz2⟩ := info_parts str_info
  by_cases hl : 64 < b.size
  · have hd : decide (64 < (b.size : Int)) = true := by simp; omega
    have e1 : x.sendE b = 90 := by unfold LE.sendE; rw [if_pos hl]
    have e2 : x.sent b = x := by unfold LE.sent; rw [if_neg (by omega)]
    rw [e1, e2]
    have H := Lib.hid h
    clear e1 e2 h
    unfold ends
    go_enter Tryz.func36, Tryz.ntmps36
    go_wp2
    exact bodyPost_ret (v := _) (by simp [results, Tryz.results36, go_sem]) rfl ⟨A, c, G, rfl, (H.out.alloc _).alloc _, fun _ hk => .inl hk, ((Below.refl _ _).alloc (Nat.le_refl _) _).alloc (by simp) _⟩
  · have hd : decide (64 < (b.size : Int)) = false := by simp; omega
    by_cases hf : x.queue ≤ x.bodies.length
    · have hd2 : decide (x.queue ≤ x.bodies.length) = true := by simpa using hf
      have e1 : x.sendE b = 91 := by unfold LE.sendE; rw [if_neg hl, if_pos hf]
      have e2 : x.sent b = x := by unfold LE.sent; rw [if_neg (by omega)]
      rw [e1, e2]
      have H := Lib.hid h
      clear e1 e2 h
      unfold ends
      go_enter Tryz.func36, Tryz.ntmps36
      go_wp2
      exact bodyPost_ret (v := _) (by simp [results, Tryz.results36, go_sem]) rfl ⟨A, c, G, rfl, (H.out.alloc _).alloc _, fun _ hk => .inl hk, ((Below.refl _ _).alloc (Nat.le_refl _) _).alloc (by simp) _⟩
    · have hd2 : decide (x.queue ≤ x.bodies.length) = false := by simpa using hf
      have e1 : x.sendE b = 0 := by unfold LE.sendE; rw [if_neg hl, if_neg hf]
      have e2 : x.sent b = { x with bodies := x.bodies ++ [b] } := by unfold LE.sent; rw [if_pos (by omega)]
      rw [e1, e2]
      have H := Lib.hid h
      clear e1 e2 h
      have hbig : x.bodies.length ≤ 64 := by omega
      clear hf
      unfold ends
      go_enter Tryz.func36, Tryz.ntmps36
      go_wp2_with (at_builtin; first
        | (refine wpList_append_vec _ (by rfl) _ _ _ _ (by rfl) 9 i0 _ 1 16 Tryz.underlying28 hi0 hz0 hz1 hz2 rfl [w.heap.size + 1 + 1] (some ⟨w.heap.size + 1 + 1, 0, none⟩) 0 0 [] _ x.bodies.length (x.bodies.map .string) (by rfl) (by rfl) (by exact vec_empty _ _ _ _ (by simp)) (by exact (((H.out.alloc _).alloc _).alloc _).src) (by unfold maxLen; omega) (by omega) ?_
           intro v' w1 happ
           rw [Nat.zero_add, List.nil_append] at happ
           obtain ⟨F1, A1, c1, rfl, hv1, ht1⟩ := happ.all
           have HV1 := Lib.hid hv1
           have HT1 := Lib.hid ht1
           clear happ hv1 ht1)
        | go_loud (refine wpList_append_vec _ (by rfl) _ _ _ _ (by rfl) 9 i0 _ 1 16 Tryz.underlying28 hi0 hz0 hz1 hz2 rfl F1 A1 x.bodies.length c1 (x.bodies.map .string) _ 1 [.string b] (by rfl) (by rfl) (by exact HV1.out.alloc _) (by exact src_new _ Tryz.underlying28 [.string b] 1 1 1 rfl (by simp [Value.oneCell']) _ (heap_alloc_new w1 _)) (by unfold maxLen; omega) (by omega) ?_; intro v' w2 happ; obtain ⟨F2, A2, c2, rfl, hv2, ht2⟩ := happ.all; obtain ⟨hb2, hF2⟩ := two_app (B := w.heap.size + 2) HT1.out ht2 (by simp) (by simp); have HV2 := Lib.hid hv2; have HB2 := Lib.hid hb2; have HF2 := Lib.hid hF2; have q0 := (hb2.block w.heap.size (by omega)).trans ((Below.heap_alloc _ _ _ (by simp; omega)).trans ((Below.heap_alloc _ _ _ (by simp)).trans (heap_alloc_new w _))); have q1 := (hb2.block (w.heap.size + 1) (by omega)).trans ((Below.heap_alloc _ _ _ (by simp)).trans (heap_new_at _ _ _ (by simp))); clear happ hv2 ht2 hb2 hF2; have ⟨_, _, _, _, _, _, _, _, _, _, _⟩ := eleven q0; have ⟨_, _, _, _, _, _, _, _, _, _, _⟩ := eleven q1; have ⟨_, _, _, _, _, _, _, _, _, _, _⟩ := eleven0 q0; have ⟨_, _, _, _, _, _, _, _, _, _, _⟩ := eleven0 q1; have Q0 := Lib.hid q0; have Q1 := Lib.hid q1; clear q0 q1))
      have hk : ∀ wf, Kept [w.heap.size, w.heap.size + 1] w2 wf → Vec wf F2 1 A2 (x.bodies ++ [b]).length c2 ((x.bodies ++ [b]).map Value.string) ∧ Below w.heap.size w wf := fun wf hk => ⟨by simpa using HV2.out.kept hk (fun k hk => by have := HF2.out k hk; simp; omega),
        (((((Below.refl _ _).alloc (Nat.le_refl _) _).alloc (by simp) _).alloc (by simp; omega) _).trans (HB2.out.mono (by omega))).trans (hk.below (by have := HB2.out.size; simp at this; omega) (by simp))⟩
      have HK := Lib.hid hk
      clear hk
      have q := eleven_set ((set_other (w := w2) (p := ⟨w.heap.size, 4, none⟩) (g := w.heap.size + 1) (by simp) (.slice A2 (x.bodies.length + 1) c2)).trans Q1.out) (.int .i64 x.epoch) (.int .i64 (x.window : Int)) (.int .i64 (x.queue : Int)) (.int .i64 (x.wait : Int)) (.slice A2 (x.bodies.length + 1) c2) (.int .u64 x.first) (.int .i64 (x.out : Int)) (.int .i64 (x.ever : Int)) (.int .u64 x.want) (.bool x.owes) (.int .i64 (x.age : Int))
      refine ret_row2 Tryz.results36 (w.heap.size + 1) _ _ _ _ rfl q.1 rfl Tryz.underlying30 rfl (by kernel_rfl) rfl ?_
      obtain ⟨r1, r2⟩ := HK.out _ (((Kept.refl _ w2).setCell (p := ⟨w.heap.size, 4, none⟩) (.inl (by simp)) (.slice A2 (x.bodies.length + 1) c2)).trans (q.2.mono (by simp)))
      exact ⟨A2, c2, F2, ret_eq (by simp), Low.of_vec (x := { x with bodies := x.bodies ++ [b] }) r1, fun k hk => .inr (by have := HF2.out k hk; omega), r2⟩
end Go.Proofs.YtihhflajkohibaaGreatDoor.Link
/- Layer 9, the reference: what lets frames out of an end as a value. Conditions: the value's row lies (Vec), and the end is one that may be (Ok). -/
namespace Go.Proofs.YtihhflajkohibaaGreatDoor.Link
set_option linter.unusedSimpArgs false
set_option linter.unusedVariables false
set_option maxRecDepth 100000
open Go.RowKit
def zero11 : Array Value := #[.int .i64 0, .int .i64 0, .int .i64 0, .int .i64 0, .slice none 0 0, .int .u64 0, .int .i64 0, .int .i64 0, .int .u64 0, .bool false, .int .i64 0]
structure RefRel (w : World) (x : LE) (A : Option Addr) (c k : Nat) (s : Value) (wr : World) : Prop where
  k1 : x.out ≤ k
  k2 : k ≤ x.most
  box : wr.heap[w.heap.size]? = some (.cells (ends (x.at k) A c) 30 (0, 0))
  res : wr.heap[w.heap.size + 1]? = some (.cells zero11 30 (0, 0))
  row : ∃ G B d, s = .slice B (x.sofar k).length d ∧ Vec wr G 5 B (x.sofar k).length d ((x.sofar k).flatMap Fr.cells) ∧ ∀ j, j ∈ G → w.heap.size + 2 ≤ j
  below : Below w.heap.size w wr
theorem RefRel.step {w v : World} {x : LE} {A B2 : Option Addr} {c k d2 : Nat} {G2 : List Nat} (hk1 : x.out ≤ k) (hlt : k < x.most) (hbx : v.heap[w.heap.size]? = some (.cells (ends (x.at k) A c) 30 (0, 0)))
    (hres : v.heap[w.heap.size + 1]? = some (.cells zero11 30 (0, 0))) (hv : Vec v G2 5 B2 ((x.sofar k).length + 1) d2 ((x.sofar k).flatMap Fr.cells ++ (x.data k).cells)) (hG2 : ∀ j, j ∈ G2 → w.heap.size + 2 ≤ j) (hb : Below w.heap.size w v) :
    RefRel w x A c (k + 1) (.slice B2 ((x.sofar k).length + 1) d2) (v.setCell ⟨w.heap.size, 6, none⟩ (.int .i64 ((k : Int) + 1))) ∧ outOf (v.setCell ⟨w.heap.size, 6, none⟩ (.int .i64 ((k : Int) + 1))) w.heap.size = k + 1 := by
  have e := sofar_step x k hk1
  have hl : (x.sofar (k + 1)).length = (x.sofar k).length + 1 := by rw [← e]; simp
  have hf : (x.sofar (k + 1)).flatMap Fr.cells = (x.sofar k).flatMap Fr.cells ++ (x.data k).cells := by rw [← e]; simp
  have h6 := cell_of_block hbx 6
  simp [ends] at h6
  refine ⟨⟨by omega, hlt, ?_, ?_, ⟨G2, B2, d2, by rw [hl], ?_, hG2⟩, hb.setCell (Nat.le_refl _) _⟩, ?_⟩
  · rw [set_block hbx]; simp [ends, LE.at]
  · rw [set_other (p := ⟨w.heap.size, 6, none⟩) (by simp)]; exact hres
  · rw [hl, hf]; exact hv.setCell (fun hm => by have : w.heap.size + 2 ≤ w.heap.size := hG2 _ hm; omega) _
  · unfold outOf; rw [World.cell?_setCell_same _ _ _ h6]; simp
theorem new_from {w w' : World} {B : Nat} {G G' : List Nat} (h : Turns G G' w w') (hG : ∀ j, j ∈ G → B ≤ j) (hB : B ≤ w.heap.size) : ∀ j, j ∈ G' → B ≤ j := fun j hj => (h.new j hj).elim (hG j) fun h => Nat.le_trans hB h
theorem ack_step {w wc w5 : World} {o b1 b2 : Obj} {G G5 : List Nat} (hb3 : Below w.heap.size w wc) (hs : w.heap.size + 1 < wc.heap.size) (hG : ∀ j, j ∈ G → w.heap.size + 2 ≤ j) (ht : Turns G G5 (wc.alloc o) w5)
    (h0 : wc.heap[w.heap.size]? = some b1) (h1 : wc.heap[w.heap.size + 1]? = some b2) : (∀ j, j ∈ G5 → w.heap.size + 2 ≤ j) ∧ w5.heap[w.heap.size]? = some b1 ∧ w5.heap[w.heap.size + 1]? = some b2 ∧ Below w.heap.size w w5 := by
  have hz : (wc.alloc o).heap.size = wc.heap.size + 1 := by simp
  have hn : ∀ k, k < w.heap.size + 2 → k ∉ G := fun k hk hm => by have := hG k hm; omega
  refine ⟨new_from ht hG (by omega), ?_, ?_, (hb3.alloc hb3.size _).trans (ht.kept.below (by omega) fun j hj => by have := hG j hj; omega)⟩
  · exact (ht.kept.block _ (by omega) (hn _ (by omega))).trans ((Below.heap_alloc _ _ _ (by omega)).trans h0)
  · exact (ht.kept.block _ (by omega) (hn _ (by omega))).trans ((Below.heap_alloc _ _ _ (by omega)).trans h1)
theorem data_val (x : LE) (k : Nat) : ((x.data k).cells : List Value) = [.int .i64 1, .int .i64 x.epoch, .int .u64 (u (x.first + (k : Int))), .int .u64 x.want, .string (x.bodies.getD k ⟨#[]⟩)] := rfl
set_option maxHeartbeats 4000000 in
theorem ref_out {w : World} {x : LE} {F : List Nat} {A : Option Addr} {c : Nat} (h : Low w F x A c) (hx : x.Ok) :
    Calls Tryz.prog 41 #[.agg (ends x A c)] w fun e w' => ∃ B d G, e = .returned (.tuple #[.agg (ends x.gone A c), .slice B x.goes.length d]) ∧
      Vec w' G 5 B x.goes.length d (x.goes.flatMap Fr.cells) ∧ (∀ k, k ∈ G → w.heap.size ≤ k) ∧ Below w.heap.size w w' := by
  have h1 := hx.w8
  have h2 := hx.len
  have h3 := hx.q64
  have h4 := hx.out_most
  have h5 : x.most = min x.window x.bodies.length := rfl
  have h6 : x.ever ≤ x.most := by have := hx.ew; have := hx.el; omega
  obtain ⟨i0, hi0, hz0, hz1, hz2⟩ := info_parts frame_info
  have hstart : RefRel w x A c x.out (.slice (some ⟨w.heap.size + 1 + 1, 0, none⟩) 0 0) (((w.alloc (.cells (ends x A c) 30)).alloc (.cells zero11 30)).alloc (.cells #[] 83)) := by
    refine ⟨Nat.le_refl _, h4, ?_, ?_, ⟨[w.heap.size + 1 + 1], some ⟨w.heap.size + 1 + 1, 0, none⟩, 0, by simp [LE.sofar], ?_, by simp⟩, ?_⟩
    · rw [Below.heap_alloc _ _ _ (by simp; omega), Below.heap_alloc _ _ _ (by simp)]; exact heap_alloc_new w _
    · rw [Below.heap_alloc _ _ _ (by simp)]; exact heap_new_at _ _ _ (by simp)
    · have := vec_empty ((w.alloc (.cells (ends x A c) 30)).alloc (.cells zero11 30)) 83 5 (w.heap.size + 1 + 1) (by simp)
      simpa [LE.sofar] using this
    · exact (((Below.refl _ _).alloc (Nat.le_refl _) _).alloc (by simp) _).alloc (by simp; omega) _
  unfold zero11 at hstart
  have HST := Lib.hid hstart
  have H := Lib.hid h
  have H5 := Lib.hid h5
  clear hstart h h5
  unfold ends at HST ⊢
  go_enter Tryz.func41, Tryz.ntmps41
  go_wp2_with fail
  go_loopw [4] (fun s wr => ∃ k, RefRel w x A c k s wr) (fun _ wr => x.most - outOf wr w.heap.size)
  case atStart => exact ⟨x.out, HST.out⟩
  case round =>
    obtain ⟨k, hr⟩ := hrel
    have hk1 := hr.k1
    have hk2 := hr.k2
    obtain ⟨G, B, d, rfl, hv, hG⟩ := hr.row
    have hbox := hr.box
    have c6 := cell_of_block hbox 6
    simp [ends, LE.at] at c6
    have hmu : outOf wr w.heap.size = k := by unfold outOf; rw [c6]; simp
    have HMU := Lib.hid hmu
    have HBX := Lib.hid hbox
    have HV := Lib.hid hv
    have HG := Lib.hid hG
    have HB := Lib.hid hr.below
    have HRES := Lib.hid hr.res
    have hsz := lt_of_block hr.res
    clear hmu hbox hv hG c6 hr
    by_cases hlt : k < x.most
    · have hbk : (x.bodies.map Value.string)[k]? = some (.string (x.bodies.getD k ⟨#[]⟩)) := by
        have := H5.out
        rw [List.getElem?_map, List.getD_eq_getElem?_getD, List.getElem?_eq_getElem (by omega)]; rfl
      obtain ⟨g, off, rfl, hF, hgl, hce⟩ := (H.out.some_ (by rintro e; rw [e] at hbk; simp at hbk)).at hbk
      have hd1 : decide (k < x.window) = true := by have := H5.out; simp; omega
      have hd2 : decide (k < x.bodies.length) = true := by have := H5.out; simp; omega
      have hkl : (k : Int) < (x.bodies.length : Int) := by have := H5.out; omega
      have hk0 : (0 : Int) ≤ (k : Int) := by omega
      have hwk : IntKind.u64.wrap (k : Int) = (k : Int) := conv_in _ (by omega) (by omega)
      have hll : (x.sofar k).length ≤ 100 := by have := H5.out; simp [LE.sofar]; omega
      have hcw := (HB.out.cell (p := ⟨g, off + k, none⟩) hgl).trans hce
      have HCW := Lib.hid hcw
      have hgw : g < wr.heap.size := by omega
      have hwl : w.heap.size < wr.heap.size := by omega
      have hgG : g ∉ G := fun hm => by have := HG.out g hm; omega
      have hbG : w.heap.size ∉ G := fun hm => by have := HG.out _ hm; omega
      have hHC := eleven HBX.out
      have HC := Lib.hid hHC
      clear hbk hce hcw hHC hF
      obtain ⟨k0, k1, _, _, k4, k5, k6, _, k8, _, _⟩ := HC.out
      simp only [LE.at] at k0 k1 k4 k5 k6 k8
      go_wp2_with fail
      clear k0 k1 k4 k5 k6 k8
      refine' wp_flow [only 0 _, only 1 _, only 2 _, only 3 _, only 4 _, only 5 _, only 6 _, only 7 _, only 8 _, only 9 _, only 10 _, only 11 _, only 12 _, only 13 _, only 14 _, only 15 _, only 16 _, only 17 _, own 18 (fun y v => ∃ b, y = .slice (some ⟨b, 0, none⟩) 1 1 ∧ wr.heap.size ≤ b ∧ v.heap[b]? = some (.cells (x.data k).cells.toArray 83 (0, 0))), own 19 (fun y v => ∃ G2 B2 d2, y = .slice B2 ((x.sofar k).length + 1) d2 ∧ Vec v G2 5 B2 ((x.sofar k).length + 1) d2 ((x.sofar k).flatMap Fr.cells ++ (x.data k).cells) ∧ ∀ j, j ∈ G2 → w.heap.size + 2 ≤ j), own 20 (fun y v => ∃ G2 B2 d2, y = .slice B2 ((x.sofar k).length + 1) d2 ∧ Vec v G2 5 B2 ((x.sofar k).length + 1) d2 ((x.sofar k).flatMap Fr.cells ++ (x.data k).cells) ∧ ∀ j, j ∈ G2 → w.heap.size + 2 ≤ j), (fun _ v => Vec v G 5 B (x.sofar k).length d ((x.sofar k).flatMap Fr.cells))] (fun v => Kept G wr v) [[], [], [1], [], [3], [], [5], [6], [4, 7], [], [9], [], [11], [], [13], [12, 14], [15], [2, 8, 10, 16], [17], [0, 18, 21], [19]] [[], [], [], [], [], [], [], [], [], [], [], [], [], [], [], [], [], [], [], [21, 18], []] [[20], [], [], [], [], [], [], [], [], [], [], [], [], [], [], [], [], [], [], [], []] [[18, 21], [21], [21], [21], [21], [21], [21], [21], [21], [21], [21], [21], [21], [21], [21], [21], [21], [21], [21], [], [19]] [18, 19, 20, 21] [0, 0, 2, 0, 8, 0, 32, 96, 248, 0, 512, 0, 2048, 0, 8192, 30720, 63488, 131070, 262142, 524287, 1048575] _ (fun us => ?hfr) (by kernel_rfl) (by kernel_rfl) (by kernel_rfl) ⟨only_still _, only_still _, only_still _, only_still _, only_still _, only_still _, only_still _, only_still _, only_still _, only_still _, only_still _, only_still _, only_still _, only_still _, only_still _, only_still _, only_still _, only_still _, trivial, trivial, trivial, trivial, trivial⟩ ((Kept.refl G wr).drew) (by simp) (HV.out.drew) ?hst ?hla
      case hfr => (simp only [List.cons_append, List.nil_append, putAll, Act.put, List.setIfInBounds_toArray, List.set_cons_zero, List.set_cons_succ, Nat.reduceAdd]; rfl)
      case hst =>
        refine ⟨?_, ?_, ?_, ?_, ?_, ?_, ?_, ?_, ?_, ?_, ?_, ?_, ?_, ?_, ?_, ?_, ?_, ?_, ?_, ?_, ?_, trivial⟩
        · intro us v hR hn ho K hK
          obtain ⟨o20, -⟩ := ho
          have n20 : us 20 = .slice B (x.sofar k).length d := o20
          clear o20
          have q := HC.out; have k0 := (hR.cell (p := ⟨w.heap.size, 0, none⟩) hwl hbG).trans q.c0; have k4 := (hR.cell (p := ⟨w.heap.size, 4, none⟩) hwl hbG).trans q.c4; have k5 := (hR.cell (p := ⟨w.heap.size, 5, none⟩) hwl hbG).trans q.c5; have k6 := (hR.cell (p := ⟨w.heap.size, 6, none⟩) hwl hbG).trans q.c6; have k8 := (hR.cell (p := ⟨w.heap.size, 8, none⟩) hwl hbG).trans q.c8; have kb := (hR.cell (p := ⟨g, off + k, none⟩) hgw hgG).trans HCW.out; simp only [LE.at] at k0 k4 k5 k6 k8; clear q
          rw [if_pos (by rfl)]
          go_simp
          refine hK _ _ _ (by simp only [Act.put, List.setIfInBounds_toArray, List.set_cons_zero, List.set_cons_succ, Nat.reduceAdd, n20] <;> rfl) ?_ hR ⟨fun h => h, fun h => h, trivial⟩
          refine only_mk (v := v) ?_
          with_reducible rfl
        · intro us v hR hn ho K hK
          clear ho
          have q := HC.out; have k0 := (hR.cell (p := ⟨w.heap.size, 0, none⟩) hwl hbG).trans q.c0; have k4 := (hR.cell (p := ⟨w.heap.size, 4, none⟩) hwl hbG).trans q.c4; have k5 := (hR.cell (p := ⟨w.heap.size, 5, none⟩) hwl hbG).trans q.c5; have k6 := (hR.cell (p := ⟨w.heap.size, 6, none⟩) hwl hbG).trans q.c6; have k8 := (hR.cell (p := ⟨w.heap.size, 8, none⟩) hwl hbG).trans q.c8; have kb := (hR.cell (p := ⟨g, off + k, none⟩) hgw hgG).trans HCW.out; simp only [LE.at] at k0 k4 k5 k6 k8; clear q
          rw [if_pos (by rfl)]
          go_simp
          refine hK _ _ _ (by simp only [Act.put, List.setIfInBounds_toArray, List.set_cons_zero, List.set_cons_succ, Nat.reduceAdd] <;> rfl) ?_ hR ⟨fun h => h, trivial⟩
          refine only_mk (v := v) ?_
          with_reducible rfl
        · intro us v hR hn ho K hK
          obtain ⟨n1, -⟩ := hn
          have n1 : us 1 = _ := n1
          clear ho
          have q := HC.out; have k0 := (hR.cell (p := ⟨w.heap.size, 0, none⟩) hwl hbG).trans q.c0; have k4 := (hR.cell (p := ⟨w.heap.size, 4, none⟩) hwl hbG).trans q.c4; have k5 := (hR.cell (p := ⟨w.heap.size, 5, none⟩) hwl hbG).trans q.c5; have k6 := (hR.cell (p := ⟨w.heap.size, 6, none⟩) hwl hbG).trans q.c6; have k8 := (hR.cell (p := ⟨w.heap.size, 8, none⟩) hwl hbG).trans q.c8; have kb := (hR.cell (p := ⟨g, off + k, none⟩) hgw hgG).trans HCW.out; simp only [LE.at] at k0 k4 k5 k6 k8; clear q
          rw [if_pos (by rfl)]
          go_simp
          refine hK _ _ _ (by simp only [Act.put, List.setIfInBounds_toArray, List.set_cons_zero, List.set_cons_succ, Nat.reduceAdd, n1] <;> rfl) ?_ hR ⟨fun h => h, trivial⟩
          refine only_mk (v := v) ?_
          with_reducible rfl
        · intro us v hR hn ho K hK
          clear ho
          have q := HC.out; have k0 := (hR.cell (p := ⟨w.heap.size, 0, none⟩) hwl hbG).trans q.c0; have k4 := (hR.cell (p := ⟨w.heap.size, 4, none⟩) hwl hbG).trans q.c4; have k5 := (hR.cell (p := ⟨w.heap.size, 5, none⟩) hwl hbG).trans q.c5; have k6 := (hR.cell (p := ⟨w.heap.size, 6, none⟩) hwl hbG).trans q.c6; have k8 := (hR.cell (p := ⟨w.heap.size, 8, none⟩) hwl hbG).trans q.c8; have kb := (hR.cell (p := ⟨g, off + k, none⟩) hgw hgG).trans HCW.out; simp only [LE.at] at k0 k4 k5 k6 k8; clear q
          rw [if_pos (by rfl)]
          go_simp
          refine hK _ _ _ (by simp only [Act.put, List.setIfInBounds_toArray, List.set_cons_zero, List.set_cons_succ, Nat.reduceAdd] <;> rfl) ?_ hR ⟨fun h => h, trivial⟩
          refine only_mk (v := v) ?_
          with_reducible rfl
        · intro us v hR hn ho K hK
          obtain ⟨n3, -⟩ := hn
          have n3 : us 3 = _ := n3
          clear ho
          have q := HC.out; have k0 := (hR.cell (p := ⟨w.heap.size, 0, none⟩) hwl hbG).trans q.c0; have k4 := (hR.cell (p := ⟨w.heap.size, 4, none⟩) hwl hbG).trans q.c4; have k5 := (hR.cell (p := ⟨w.heap.size, 5, none⟩) hwl hbG).trans q.c5; have k6 := (hR.cell (p := ⟨w.heap.size, 6, none⟩) hwl hbG).trans q.c6; have k8 := (hR.cell (p := ⟨w.heap.size, 8, none⟩) hwl hbG).trans q.c8; have kb := (hR.cell (p := ⟨g, off + k, none⟩) hgw hgG).trans HCW.out; simp only [LE.at] at k0 k4 k5 k6 k8; clear q
          rw [if_pos (by rfl)]
          go_simp
          refine hK _ _ _ (by simp only [Act.put, List.setIfInBounds_toArray, List.set_cons_zero, List.set_cons_succ, Nat.reduceAdd, n3] <;> rfl) ?_ hR ⟨fun h => h, trivial⟩
          refine only_mk (v := v) ?_
          with_reducible rfl
        · intro us v hR hn ho K hK
          clear ho
          have q := HC.out; have k0 := (hR.cell (p := ⟨w.heap.size, 0, none⟩) hwl hbG).trans q.c0; have k4 := (hR.cell (p := ⟨w.heap.size, 4, none⟩) hwl hbG).trans q.c4; have k5 := (hR.cell (p := ⟨w.heap.size, 5, none⟩) hwl hbG).trans q.c5; have k6 := (hR.cell (p := ⟨w.heap.size, 6, none⟩) hwl hbG).trans q.c6; have k8 := (hR.cell (p := ⟨w.heap.size, 8, none⟩) hwl hbG).trans q.c8; have kb := (hR.cell (p := ⟨g, off + k, none⟩) hgw hgG).trans HCW.out; simp only [LE.at] at k0 k4 k5 k6 k8; clear q
          rw [if_pos (by rfl)]
          go_simp
          refine hK _ _ _ (by simp only [Act.put, List.setIfInBounds_toArray, List.set_cons_zero, List.set_cons_succ, Nat.reduceAdd] <;> rfl) ?_ hR ⟨fun h => h, trivial⟩
          refine only_mk (v := v) ?_
          with_reducible rfl
        · intro us v hR hn ho K hK
          obtain ⟨n5, -⟩ := hn
          have n5 : us 5 = _ := n5
          clear ho
          have q := HC.out; have k0 := (hR.cell (p := ⟨w.heap.size, 0, none⟩) hwl hbG).trans q.c0; have k4 := (hR.cell (p := ⟨w.heap.size, 4, none⟩) hwl hbG).trans q.c4; have k5 := (hR.cell (p := ⟨w.heap.size, 5, none⟩) hwl hbG).trans q.c5; have k6 := (hR.cell (p := ⟨w.heap.size, 6, none⟩) hwl hbG).trans q.c6; have k8 := (hR.cell (p := ⟨w.heap.size, 8, none⟩) hwl hbG).trans q.c8; have kb := (hR.cell (p := ⟨g, off + k, none⟩) hgw hgG).trans HCW.out; simp only [LE.at] at k0 k4 k5 k6 k8; clear q
          rw [if_pos (by rfl)]
          go_simp
          refine hK _ _ _ (by simp only [Act.put, List.setIfInBounds_toArray, List.set_cons_zero, List.set_cons_succ, Nat.reduceAdd, n5] <;> rfl) ?_ hR ⟨fun h => h, trivial⟩
          refine only_mk (v := v) ?_
          with_reducible rfl
        · intro us v hR hn ho K hK
          obtain ⟨n6, -⟩ := hn
          have n6 : us 6 = _ := n6
          clear ho
          have q := HC.out; have k0 := (hR.cell (p := ⟨w.heap.size, 0, none⟩) hwl hbG).trans q.c0; have k4 := (hR.cell (p := ⟨w.heap.size, 4, none⟩) hwl hbG).trans q.c4; have k5 := (hR.cell (p := ⟨w.heap.size, 5, none⟩) hwl hbG).trans q.c5; have k6 := (hR.cell (p := ⟨w.heap.size, 6, none⟩) hwl hbG).trans q.c6; have k8 := (hR.cell (p := ⟨w.heap.size, 8, none⟩) hwl hbG).trans q.c8; have kb := (hR.cell (p := ⟨g, off + k, none⟩) hgw hgG).trans HCW.out; simp only [LE.at] at k0 k4 k5 k6 k8; clear q
          rw [if_pos (by rfl)]
          go_simp
          refine hK _ _ _ (by simp only [Act.put, List.setIfInBounds_toArray, List.set_cons_zero, List.set_cons_succ, Nat.reduceAdd, n6] <;> rfl) ?_ hR ⟨fun h => h, trivial⟩
          refine only_mk (v := v) ?_
          with_reducible rfl
        · intro us v hR hn ho K hK
          obtain ⟨n4, n7, -⟩ := hn
          have n4 : us 4 = _ := n4
          have n7 : us 7 = _ := n7
          clear ho
          have q := HC.out; have k0 := (hR.cell (p := ⟨w.heap.size, 0, none⟩) hwl hbG).trans q.c0; have k4 := (hR.cell (p := ⟨w.heap.size, 4, none⟩) hwl hbG).trans q.c4; have k5 := (hR.cell (p := ⟨w.heap.size, 5, none⟩) hwl hbG).trans q.c5; have k6 := (hR.cell (p := ⟨w.heap.size, 6, none⟩) hwl hbG).trans q.c6; have k8 := (hR.cell (p := ⟨w.heap.size, 8, none⟩) hwl hbG).trans q.c8; have kb := (hR.cell (p := ⟨g, off + k, none⟩) hgw hgG).trans HCW.out; simp only [LE.at] at k0 k4 k5 k6 k8; clear q
          rw [if_pos (by rfl)]
          go_simp
          refine hK _ _ _ (by simp only [Act.put, List.setIfInBounds_toArray, List.set_cons_zero, List.set_cons_succ, Nat.reduceAdd, n4, n7] <;> rfl) ?_ hR ⟨fun h => h, trivial⟩
          refine only_mk (v := v) ?_
          with_reducible rfl
        · intro us v hR hn ho K hK
          clear ho
          have q := HC.out; have k0 := (hR.cell (p := ⟨w.heap.size, 0, none⟩) hwl hbG).trans q.c0; have k4 := (hR.cell (p := ⟨w.heap.size, 4, none⟩) hwl hbG).trans q.c4; have k5 := (hR.cell (p := ⟨w.heap.size, 5, none⟩) hwl hbG).trans q.c5; have k6 := (hR.cell (p := ⟨w.heap.size, 6, none⟩) hwl hbG).trans q.c6; have k8 := (hR.cell (p := ⟨w.heap.size, 8, none⟩) hwl hbG).trans q.c8; have kb := (hR.cell (p := ⟨g, off + k, none⟩) hgw hgG).trans HCW.out; simp only [LE.at] at k0 k4 k5 k6 k8; clear q
          rw [if_pos (by rfl)]
          go_simp
          refine hK _ _ _ (by simp only [Act.put, List.setIfInBounds_toArray, List.set_cons_zero, List.set_cons_succ, Nat.reduceAdd] <;> rfl) ?_ hR ⟨fun h => h, trivial⟩
          refine only_mk (v := v) ?_
          with_reducible rfl
        · intro us v hR hn ho K hK
          obtain ⟨n9, -⟩ := hn
          have n9 : us 9 = _ := n9
          clear ho
          have q := HC.out; have k0 := (hR.cell (p := ⟨w.heap.size, 0, none⟩) hwl hbG).trans q.c0; have k4 := (hR.cell (p := ⟨w.heap.size, 4, none⟩) hwl hbG).trans q.c4; have k5 := (hR.cell (p := ⟨w.heap.size, 5, none⟩) hwl hbG).trans q.c5; have k6 := (hR.cell (p := ⟨w.heap.size, 6, none⟩) hwl hbG).trans q.c6; have k8 := (hR.cell (p := ⟨w.heap.size, 8, none⟩) hwl hbG).trans q.c8; have kb := (hR.cell (p := ⟨g, off + k, none⟩) hgw hgG).trans HCW.out; simp only [LE.at] at k0 k4 k5 k6 k8; clear q
          rw [if_pos (by rfl)]
          go_simp
          refine hK _ _ _ (by simp only [Act.put, List.setIfInBounds_toArray, List.set_cons_zero, List.set_cons_succ, Nat.reduceAdd, n9] <;> rfl) ?_ hR ⟨fun h => h, trivial⟩
          refine only_mk (v := v) ?_
          with_reducible rfl
        · intro us v hR hn ho K hK
          clear ho
          have q := HC.out; have k0 := (hR.cell (p := ⟨w.heap.size, 0, none⟩) hwl hbG).trans q.c0; have k4 := (hR.cell (p := ⟨w.heap.size, 4, none⟩) hwl hbG).trans q.c4; have k5 := (hR.cell (p := ⟨w.heap.size, 5, none⟩) hwl hbG).trans q.c5; have k6 := (hR.cell (p := ⟨w.heap.size, 6, none⟩) hwl hbG).trans q.c6; have k8 := (hR.cell (p := ⟨w.heap.size, 8, none⟩) hwl hbG).trans q.c8; have kb := (hR.cell (p := ⟨g, off + k, none⟩) hgw hgG).trans HCW.out; simp only [LE.at] at k0 k4 k5 k6 k8; clear q
          rw [if_pos (by rfl)]
          go_simp
          refine hK _ _ _ (by simp only [Act.put, List.setIfInBounds_toArray, List.set_cons_zero, List.set_cons_succ, Nat.reduceAdd] <;> rfl) ?_ hR ⟨fun h => h, trivial⟩
          refine only_mk (v := v) ?_
          with_reducible rfl
        · intro us v hR hn ho K hK
          obtain ⟨n11, -⟩ := hn
          have n11 : us 11 = _ := n11
          clear ho
          have q := HC.out; have k0 := (hR.cell (p := ⟨w.heap.size, 0, none⟩) hwl hbG).trans q.c0; have k4 := (hR.cell (p := ⟨w.heap.size, 4, none⟩) hwl hbG).trans q.c4; have k5 := (hR.cell (p := ⟨w.heap.size, 5, none⟩) hwl hbG).trans q.c5; have k6 := (hR.cell (p := ⟨w.heap.size, 6, none⟩) hwl hbG).trans q.c6; have k8 := (hR.cell (p := ⟨w.heap.size, 8, none⟩) hwl hbG).trans q.c8; have kb := (hR.cell (p := ⟨g, off + k, none⟩) hgw hgG).trans HCW.out; simp only [LE.at] at k0 k4 k5 k6 k8; clear q
          rw [if_pos (by rfl)]
          go_simp
          refine hK _ _ _ (by simp only [Act.put, List.setIfInBounds_toArray, List.set_cons_zero, List.set_cons_succ, Nat.reduceAdd, n11] <;> rfl) ?_ hR ⟨fun h => h, trivial⟩
          refine only_mk (v := v) ?_
          with_reducible rfl
        · intro us v hR hn ho K hK
          clear ho
          have q := HC.out; have k0 := (hR.cell (p := ⟨w.heap.size, 0, none⟩) hwl hbG).trans q.c0; have k4 := (hR.cell (p := ⟨w.heap.size, 4, none⟩) hwl hbG).trans q.c4; have k5 := (hR.cell (p := ⟨w.heap.size, 5, none⟩) hwl hbG).trans q.c5; have k6 := (hR.cell (p := ⟨w.heap.size, 6, none⟩) hwl hbG).trans q.c6; have k8 := (hR.cell (p := ⟨w.heap.size, 8, none⟩) hwl hbG).trans q.c8; have kb := (hR.cell (p := ⟨g, off + k, none⟩) hgw hgG).trans HCW.out; simp only [LE.at] at k0 k4 k5 k6 k8; clear q
          rw [if_pos (by rfl)]
          go_simp
          refine hK _ _ _ (by simp only [Act.put, List.setIfInBounds_toArray, List.set_cons_zero, List.set_cons_succ, Nat.reduceAdd] <;> rfl) ?_ hR ⟨fun h => h, trivial⟩
          refine only_mk (v := v) ?_
          with_reducible rfl
        · intro us v hR hn ho K hK
          obtain ⟨n13, -⟩ := hn
          have n13 : us 13 = _ := n13
          clear ho
          have q := HC.out; have k0 := (hR.cell (p := ⟨w.heap.size, 0, none⟩) hwl hbG).trans q.c0; have k4 := (hR.cell (p := ⟨w.heap.size, 4, none⟩) hwl hbG).trans q.c4; have k5 := (hR.cell (p := ⟨w.heap.size, 5, none⟩) hwl hbG).trans q.c5; have k6 := (hR.cell (p := ⟨w.heap.size, 6, none⟩) hwl hbG).trans q.c6; have k8 := (hR.cell (p := ⟨w.heap.size, 8, none⟩) hwl hbG).trans q.c8; have kb := (hR.cell (p := ⟨g, off + k, none⟩) hgw hgG).trans HCW.out; simp only [LE.at] at k0 k4 k5 k6 k8; clear q
          rw [if_pos (by rfl)]
          go_simp
          refine hK _ _ _ (by simp only [Act.put, List.setIfInBounds_toArray, List.set_cons_zero, List.set_cons_succ, Nat.reduceAdd, n13] <;> rfl) ?_ hR ⟨fun h => h, trivial⟩
          refine only_mk (v := v) ?_
          with_reducible rfl
        · intro us v hR hn ho K hK
          obtain ⟨n12, n14, -⟩ := hn
          have n12 : us 12 = _ := n12
          have n14 : us 14 = _ := n14
          clear ho
          have q := HC.out; have k0 := (hR.cell (p := ⟨w.heap.size, 0, none⟩) hwl hbG).trans q.c0; have k4 := (hR.cell (p := ⟨w.heap.size, 4, none⟩) hwl hbG).trans q.c4; have k5 := (hR.cell (p := ⟨w.heap.size, 5, none⟩) hwl hbG).trans q.c5; have k6 := (hR.cell (p := ⟨w.heap.size, 6, none⟩) hwl hbG).trans q.c6; have k8 := (hR.cell (p := ⟨w.heap.size, 8, none⟩) hwl hbG).trans q.c8; have kb := (hR.cell (p := ⟨g, off + k, none⟩) hgw hgG).trans HCW.out; simp only [LE.at] at k0 k4 k5 k6 k8; clear q
          rw [if_pos (by rfl)]
          go_simp
          refine hK _ _ _ (by simp only [Act.put, List.setIfInBounds_toArray, List.set_cons_zero, List.set_cons_succ, Nat.reduceAdd, n12, n14] <;> rfl) ?_ hR ⟨fun h => h, trivial⟩
          refine only_mk (v := v) ?_
          with_reducible rfl
        · intro us v hR hn ho K hK
          obtain ⟨n15, -⟩ := hn
          have n15 : us 15 = _ := n15
          clear ho
          have q := HC.out; have k0 := (hR.cell (p := ⟨w.heap.size, 0, none⟩) hwl hbG).trans q.c0; have k4 := (hR.cell (p := ⟨w.heap.size, 4, none⟩) hwl hbG).trans q.c4; have k5 := (hR.cell (p := ⟨w.heap.size, 5, none⟩) hwl hbG).trans q.c5; have k6 := (hR.cell (p := ⟨w.heap.size, 6, none⟩) hwl hbG).trans q.c6; have k8 := (hR.cell (p := ⟨w.heap.size, 8, none⟩) hwl hbG).trans q.c8; have kb := (hR.cell (p := ⟨g, off + k, none⟩) hgw hgG).trans HCW.out; simp only [LE.at] at k0 k4 k5 k6 k8; clear q
          rw [if_pos (by rfl)]
          go_simp
          refine hK _ _ _ (by simp only [Act.put, List.setIfInBounds_toArray, List.set_cons_zero, List.set_cons_succ, Nat.reduceAdd, n15] <;> rfl) ?_ hR ⟨fun h => h, trivial⟩
          refine only_mk (v := v) ?_
          with_reducible rfl
        · intro us v hR hn ho K hK
          obtain ⟨n2, n8, n10, n16, -⟩ := hn
          have n2 : us 2 = _ := n2
          have n8 : us 8 = _ := n8
          have n10 : us 10 = _ := n10
          have n16 : us 16 = _ := n16
          clear ho
          have q := HC.out; have k0 := (hR.cell (p := ⟨w.heap.size, 0, none⟩) hwl hbG).trans q.c0; have k4 := (hR.cell (p := ⟨w.heap.size, 4, none⟩) hwl hbG).trans q.c4; have k5 := (hR.cell (p := ⟨w.heap.size, 5, none⟩) hwl hbG).trans q.c5; have k6 := (hR.cell (p := ⟨w.heap.size, 6, none⟩) hwl hbG).trans q.c6; have k8 := (hR.cell (p := ⟨w.heap.size, 8, none⟩) hwl hbG).trans q.c8; have kb := (hR.cell (p := ⟨g, off + k, none⟩) hgw hgG).trans HCW.out; simp only [LE.at] at k0 k4 k5 k6 k8; clear q
          rw [if_pos (by rfl)]
          go_simp
          refine hK _ _ _ (by simp only [Act.put, List.setIfInBounds_toArray, List.set_cons_zero, List.set_cons_succ, Nat.reduceAdd, n2, n8, n10, n16] <;> rfl) ?_ hR ⟨fun h => h, trivial⟩
          refine only_mk (v := v) ?_
          with_reducible rfl
        · intro us v hR hn ho K hK
          obtain ⟨n17, -⟩ := hn
          have n17 : us 17 = _ := n17
          clear ho
          have q := HC.out; have k0 := (hR.cell (p := ⟨w.heap.size, 0, none⟩) hwl hbG).trans q.c0; have k4 := (hR.cell (p := ⟨w.heap.size, 4, none⟩) hwl hbG).trans q.c4; have k5 := (hR.cell (p := ⟨w.heap.size, 5, none⟩) hwl hbG).trans q.c5; have k6 := (hR.cell (p := ⟨w.heap.size, 6, none⟩) hwl hbG).trans q.c6; have k8 := (hR.cell (p := ⟨w.heap.size, 8, none⟩) hwl hbG).trans q.c8; have kb := (hR.cell (p := ⟨g, off + k, none⟩) hgw hgG).trans HCW.out; simp only [LE.at] at k0 k4 k5 k6 k8; clear q
          rw [if_pos (by rfl)]
          go_simp
          refine hK _ _ _ (by simp only [Act.put, List.setIfInBounds_toArray, List.set_cons_zero, List.set_cons_succ, Nat.reduceAdd, n17] <;> rfl) ⟨v.heap.size, rfl, hR.size, ?_⟩ (hR.alloc _) ⟨fun h => h.alloc _, trivial⟩
          exact heap_alloc_new v _
        · intro us v hR hn ho K hK
          obtain ⟨n0, n18, ns, -⟩ := hn
          have n0 : us 0 = _ := n0
          clear ho
          have q := HC.out; have k0 := (hR.cell (p := ⟨w.heap.size, 0, none⟩) hwl hbG).trans q.c0; have k4 := (hR.cell (p := ⟨w.heap.size, 4, none⟩) hwl hbG).trans q.c4; have k5 := (hR.cell (p := ⟨w.heap.size, 5, none⟩) hwl hbG).trans q.c5; have k6 := (hR.cell (p := ⟨w.heap.size, 6, none⟩) hwl hbG).trans q.c6; have k8 := (hR.cell (p := ⟨w.heap.size, 8, none⟩) hwl hbG).trans q.c8; have kb := (hR.cell (p := ⟨g, off + k, none⟩) hgw hgG).trans HCW.out; simp only [LE.at] at k0 k4 k5 k6 k8; clear q
          obtain ⟨b, n18, hb1, hb2⟩ := n18
          refine step_append_vec _ (by rfl) (.tmp 19) (.tmp 37) 79 79 (by rfl) 83 i0 _ 5 48 Tryz.underlying79 hi0 hz0 hz1 hz2 rfl G B (x.sofar k).length d _ _ 1 (x.data k).cells n0 n18 ns (src_new v Tryz.underlying79 (x.data k).cells 5 1 1 rfl (by simp [Fr.cells, Value.oneCell']) b hb2) (by unfold maxLen; omega) (by omega) ?_
          intro v7 w7 hap7
          obtain ⟨G2, B2, d2, rfl, hv5, ht5⟩ := hap7.all
          refine hK _ _ _ (by simp only [Act.put, List.setIfInBounds_toArray, List.set_cons_zero, List.set_cons_succ, Nat.reduceAdd, n0, n18] <;> rfl) ⟨G2, B2, d2, rfl, hv5, fun j hj => ?_⟩ (hR.trans ht5.kept) trivial
          rcases ht5.new j hj with hj | hj
          · exact HG.out j hj
          · have := hR.size; omega
        · intro us v hR hn ho K hK
          obtain ⟨n19, -⟩ := hn
          clear ho
          have q := HC.out; have k0 := (hR.cell (p := ⟨w.heap.size, 0, none⟩) hwl hbG).trans q.c0; have k4 := (hR.cell (p := ⟨w.heap.size, 4, none⟩) hwl hbG).trans q.c4; have k5 := (hR.cell (p := ⟨w.heap.size, 5, none⟩) hwl hbG).trans q.c5; have k6 := (hR.cell (p := ⟨w.heap.size, 6, none⟩) hwl hbG).trans q.c6; have k8 := (hR.cell (p := ⟨w.heap.size, 8, none⟩) hwl hbG).trans q.c8; have kb := (hR.cell (p := ⟨g, off + k, none⟩) hgw hgG).trans HCW.out; simp only [LE.at] at k0 k4 k5 k6 k8; clear q
          obtain ⟨G2, B2, d2, e19, hv2, hG2⟩ := n19
          rw [if_pos (by rfl)]
          go_simp
          refine hK _ _ _ (by simp only [Act.put, List.setIfInBounds_toArray, List.set_cons_zero, List.set_cons_succ, Nat.reduceAdd, e19] <;> rfl) ⟨G2, B2, d2, rfl, hv2, hG2⟩ hR ⟨fun h => h, trivial⟩
      case hla =>
        intro us v hR hl
        obtain ⟨n0, n1, n2, n3, n4, n5, n6, n7, n8, n9, n10, n11, n12, n13, n14, n15, n16, n17, n19, n20, -⟩ := need_last hl [0, 1, 2, 3, 4, 5, 6, 7, 8, 9, 10, 11, 12, 13, 14, 15, 16, 17, 19, 20] (by kernel_rfl)
        have n0 : us 0 = _ := n0
        have n1 : us 1 = _ := n1
        have n2 : us 2 = _ := n2
        have n3 : us 3 = _ := n3
        have n4 : us 4 = _ := n4
        have n5 : us 5 = _ := n5
        have n6 : us 6 = _ := n6
        have n7 : us 7 = _ := n7
        have n8 : us 8 = _ := n8
        have n9 : us 9 = _ := n9
        have n10 : us 10 = _ := n10
        have n11 : us 11 = _ := n11
        have n12 : us 12 = _ := n12
        have n13 : us 13 = _ := n13
        have n14 : us 14 = _ := n14
        have n15 : us 15 = _ := n15
        have n16 : us 16 = _ := n16
        have n17 : us 17 = _ := n17
        have q := HC.out; have k0 := (hR.cell (p := ⟨w.heap.size, 0, none⟩) hwl hbG).trans q.c0; have k4 := (hR.cell (p := ⟨w.heap.size, 4, none⟩) hwl hbG).trans q.c4; have k5 := (hR.cell (p := ⟨w.heap.size, 5, none⟩) hwl hbG).trans q.c5; have k6 := (hR.cell (p := ⟨w.heap.size, 6, none⟩) hwl hbG).trans q.c6; have k8 := (hR.cell (p := ⟨w.heap.size, 8, none⟩) hwl hbG).trans q.c8; have kb := (hR.cell (p := ⟨g, off + k, none⟩) hgw hgG).trans HCW.out; simp only [LE.at] at k0 k4 k5 k6 k8; clear q
        simp only [n0, n1, n2, n3, n4, n5, n6, n7, n8, n9, n10, n11, n12, n13, n14, n15, n16, n17]
        clear hl n0 n1 n2 n3 n4 n5 n6 n7 n8 n9 n10 n11 n12 n13 n14 n15 n16 n17
        obtain ⟨G2, B2, d2, e20, hv2, hG2⟩ := n20
        obtain ⟨_, _, _, e19, _⟩ := n19
        simp only [e19, e20]
        clear e19 e20
        have hbx2 := (hR.block w.heap.size hwl hbG).trans HBX.out
        obtain ⟨z1, z2⟩ := RefRel.step hk1 hlt hbx2 ((hR.block (w.heap.size + 1) hsz (fun hm => by have := HG.out _ hm; omega)).trans HRES.out) hv2 hG2 (HB.out.trans (hR.below HB.out.size (fun j hj => by have := HG.out _ hj; omega)))
        have Z1 := Lib.hid z1
        have Z2 := Lib.hid z2
        have y6 := cell_of_block hbx2 6
        have y7 := frozen_of_block hbx2 6
        simp [ends, LE.at] at y6
        clear z1 z2 hv2 hG2 hbx2 hR
        go_wp2_with fail
        go_roundw
        case rel => exact ⟨k + 1, Z1.out⟩
        case measure => rw [Z2.out, HMU.out]; omega
    · obtain rfl : k = x.most := by omega
      have hHC := eleven HBX.out
      have hHC0 := eleven0 HBX.out
      obtain ⟨k0, k1, k2, k3, k4, k5, k6, k7, k8, k9, k10⟩ := hHC
      simp only [LE.at] at k0 k1 k2 k3 k4 k5 k6 k7 k8 k9 k10
      have f7 := hHC0.c7
      clear hHC0
      have hcase : decide (x.most < x.window) = false ∨ (decide (x.most < x.window) = true ∧ decide (x.most < x.bodies.length) = false) := by
        have := H5.out
        by_cases c : x.most < x.window
        · exact .inr ⟨by simpa using c, by simp; omega⟩
        · exact .inl (by simpa using c)
      rcases hcase with hd | ⟨hd, hd2⟩
      all_goals
        go_upto_if 47 with fail
        go_cut [] (fun wx => wx.heap[w.heap.size]? = some (.cells (ends x.seen A c) 30 (0, 0)) ∧ Kept [w.heap.size] wr wx)
        case first =>
          by_cases he : x.ever < x.most
          · have hd3 : decide (x.ever < x.most) = true := by simpa using he
            go_wp2_with fail
            go_meet
            exact ⟨by rw [set_block HBX.out]; simp [ends, LE.at, LE.seen], (Kept.refl _ _).setCell (.inl (by simp)) _⟩
          · have hd3 : decide (x.ever < x.most) = false := by simpa using he
            have he2 : x.ever = x.most := by omega
            have HE := Lib.hid he2
            clear he2
            go_wp2_with fail
            go_meet
            exact ⟨by rw [HBX.out]; simp [ends, LE.at, LE.seen, HE.out], Kept.refl _ _⟩
        case rest =>
          obtain ⟨hbx3, hk3⟩ := hcut
          have hvc := HV.out.kept hk3 (fun j hj => by have := HG.out j hj; simp; omega)
          have hres3 := (hk3.block (w.heap.size + 1) hsz (by simp)).trans HRES.out
          have hb3 : Below w.heap.size w wc := HB.out.trans (hk3.below HB.out.size (by simp))
          unfold zero11 at hres3
          clear k0 k1 k2 k3 k4 k5 k6 k7 k8 k9 k10 f7
          obtain ⟨k0, k1, k2, k3, k4, k5, k6, k7, k8, k9, k10⟩ := eleven hbx3
          simp only [LE.seen] at k0 k1 k2 k3 k4 k5 k6 k7 k8 k9 k10
          have f9 := (eleven0 hbx3).c9
          have ⟨_, _, _, _, _, _, _, _, _, _, _⟩ := eleven hres3
          have ⟨_, _, _, _, _, _, _, _, _, _, _⟩ := eleven0 hres3
          have hlen : (x.sofar x.most).length = x.most - x.out := by simp [LE.sofar]
          have hcz : (((x.sofar x.most).length : Int) == 0) = false ∧ x.acks = [] ∨ (((x.sofar x.most).length : Int) == 0) = true ∧ x.owes = false ∧ x.acks = [] ∨ (((x.sofar x.most).length : Int) == 0) = true ∧ x.owes = true ∧ x.acks = [⟨2, x.epoch, 0, x.want, ⟨#[]⟩⟩] := by
            rcases Nat.lt_or_ge x.out x.most with hz | hz
            · exact .inl ⟨beq_eq_false_iff_ne.2 (by omega), by unfold LE.acks; rw [if_neg (by omega)]⟩
            · cases ho : x.owes
              · exact .inr (.inl ⟨by rw [beq_iff_eq]; omega, rfl, by unfold LE.acks; rw [if_neg (by simp [ho])]⟩)
              · exact .inr (.inr ⟨by rw [beq_iff_eq]; omega, rfl, by unfold LE.acks; rw [if_pos ⟨hz, ho⟩]⟩)
          have hll : (x.sofar x.most).length ≤ 100 := by have := H5.out; omega
          have HVC := Lib.hid hvc
          have HSZ := Lib.hid (Nat.lt_of_lt_of_le hsz hk3.size)
          have HRES3 := Lib.hid hres3
          have HB3 := Lib.hid hb3
          have HK3 := Lib.hid hk3
          have HBX3 := Lib.hid hbx3
          have HCZ := Lib.hid hcz
          clear hvc hres3 hb3 hk3 hbx3 hcz hlen
          rcases HCZ.out with ⟨z1, z2⟩ | ⟨z1, z2, z3⟩ | ⟨z1, z2, z3⟩
          · have hgo : x.sofar x.most = x.goes := by unfold LE.goes; rw [z2, List.append_nil]; rfl
            have HGO := Lib.hid hgo
            clear z2 hgo
            go_wp2_with fail
            have q := eleven_set ((set_other (w := wc) (p := ⟨w.heap.size, 9, none⟩) (g := w.heap.size + 1) (by simp) (.bool false)).trans HRES3.out) (.int .i64 x.epoch) (.int .i64 (x.window : Int)) (.int .i64 (x.queue : Int)) (.int .i64 (x.wait : Int)) (.slice A x.bodies.length c) (.int .u64 x.first) (.int .i64 (x.most : Int)) (.int .i64 (x.most : Int)) (.int .u64 x.want) (.bool false) (.int .i64 (x.age : Int))
            have hkf := ((Kept.refl _ wc).setCell (p := ⟨w.heap.size, 9, none⟩) (L := [w.heap.size, w.heap.size + 1]) (.inl (by simp)) (.bool false)).trans (q.2.mono (by simp))
            refine ret_row2 Tryz.results41 (w.heap.size + 1) _ _ _ _ rfl q.1 rfl Tryz.underlying30 rfl (by kernel_rfl) rfl ?_
            have hgo := HGO.out
            have hvf := (HVC.out).kept hkf (fun j hj => by have := HG.out j hj; simp; omega)
            refine ⟨B, d, G, ?_, ?_, fun j hj => by have := HG.out j hj; omega, (HB3.out).trans (hkf.below (HB3.out).size (by simp))⟩
            · rw [← hgo]; rfl
            · rw [← hgo]; exact hvf
          · have hgo : x.sofar x.most = x.goes := by unfold LE.goes; rw [z3, List.append_nil]; rfl
            have HGO := Lib.hid hgo
            rw [z2] at k9
            clear z2 z3 hgo
            go_wp2_with fail
            have q := eleven_set ((set_other (w := wc) (p := ⟨w.heap.size, 9, none⟩) (g := w.heap.size + 1) (by simp) (.bool false)).trans HRES3.out) (.int .i64 x.epoch) (.int .i64 (x.window : Int)) (.int .i64 (x.queue : Int)) (.int .i64 (x.wait : Int)) (.slice A x.bodies.length c) (.int .u64 x.first) (.int .i64 (x.most : Int)) (.int .i64 (x.most : Int)) (.int .u64 x.want) (.bool false) (.int .i64 (x.age : Int))
            have hkf := ((Kept.refl _ wc).setCell (p := ⟨w.heap.size, 9, none⟩) (L := [w.heap.size, w.heap.size + 1]) (.inl (by simp)) (.bool false)).trans (q.2.mono (by simp))
            refine ret_row2 Tryz.results41 (w.heap.size + 1) _ _ _ _ rfl q.1 rfl Tryz.underlying30 rfl (by kernel_rfl) rfl ?_
            have hgo := HGO.out
            have hvf := (HVC.out).kept hkf (fun j hj => by have := HG.out j hj; simp; omega)
            refine ⟨B, d, G, ?_, ?_, fun j hj => by have := HG.out j hj; omega, (HB3.out).trans (hkf.below (HB3.out).size (by simp))⟩
            · rw [← hgo]; rfl
            · rw [← hgo]; exact hvf
          · have hgo : x.sofar x.most ++ [⟨2, x.epoch, 0, x.want, ⟨#[]⟩⟩] = x.goes := by unfold LE.goes; rw [z3]; rfl
            have HGO := Lib.hid hgo
            rw [z2] at k9
            clear z2 z3 hgo
            go_wp2_with (at_builtin; (refine wpList_append_vec _ (by rfl) _ _ _ _ (by rfl) 83 i0 _ 5 48 Tryz.underlying79 hi0 hz0 hz1 hz2 rfl G B (x.sofar x.most).length d _ _ 1 [.int .i64 2, .int .i64 x.epoch, .int .u64 0, .int .u64 x.want, .string ⟨#[]⟩] (by rfl) (by rfl) (by exact HVC.out.alloc _) (by exact src_new _ Tryz.underlying79 [.int .i64 2, .int .i64 x.epoch, .int .u64 0, .int .u64 x.want, .string ⟨#[]⟩] 5 1 1 rfl (by simp [Value.oneCell']) _ (heap_alloc_new wc _)) (by unfold maxLen; omega) (by omega) ?_; intro v5 w5 happ; obtain ⟨G5, B5, d5, rfl, hv5, ht5⟩ := happ.all; obtain ⟨hg5, hbx5, hres5, hb5⟩ := ack_step HB3.out HSZ.out HG.out ht5 HBX3.out HRES3.out; have HB5 := Lib.hid hb5; have HV5 := Lib.hid hv5; have HG5 := Lib.hid hg5; have HRES5 := Lib.hid hres5; clear happ ht5 hv5 hg5 hb5; clear k0 k1 k2 k3 k4 k5 k6 k7 k8 k9 k10 f9; obtain ⟨k0, k1, k2, k3, k4, k5, k6, k7, k8, k9, k10⟩ := eleven hbx5; simp only [LE.seen] at k0 k1 k2 k3 k4 k5 k6 k7 k8 k9 k10; have f9 := (eleven0 hbx5).c9; have ⟨_, _, _, _, _, _, _, _, _, _, _⟩ := eleven hres5; have ⟨_, _, _, _, _, _, _, _, _, _, _⟩ := eleven0 hres5; clear hbx5 hres5))
            have q := eleven_set ((set_other (w := w5) (p := ⟨w.heap.size, 9, none⟩) (g := w.heap.size + 1) (by simp) (.bool false)).trans HRES5.out) (.int .i64 x.epoch) (.int .i64 (x.window : Int)) (.int .i64 (x.queue : Int)) (.int .i64 (x.wait : Int)) (.slice A x.bodies.length c) (.int .u64 x.first) (.int .i64 (x.most : Int)) (.int .i64 (x.most : Int)) (.int .u64 x.want) (.bool false) (.int .i64 (x.age : Int))
            have hkf := ((Kept.refl _ w5).setCell (p := ⟨w.heap.size, 9, none⟩) (L := [w.heap.size, w.heap.size + 1]) (.inl (by simp)) (.bool false)).trans (q.2.mono (by simp))
            refine ret_row2 Tryz.results41 (w.heap.size + 1) _ _ _ _ rfl q.1 rfl Tryz.underlying30 rfl (by kernel_rfl) rfl ?_
            have hgo := HGO.out
            have hvf := (HV5.out).kept hkf (fun j hj => by have := HG5.out j hj; simp; omega)
            refine ⟨B5, d5, G5, ?_, ?_, fun j hj => by have := HG5.out j hj; omega, (HB5.out).trans (hkf.below (HB5.out).size (by simp))⟩
            · rw [← hgo, List.length_append]; rfl
            · rw [← hgo, List.flatMap_append]; simpa [Fr.cells] using hvf
end Go.Proofs.YtihhflajkohibaaGreatDoor.Link
/- Layer 9, the reference: what taking a frame makes of an end as a value. Conditions: the value's row lies (Low), the end is one that may be (Ok), and the frame's number is one of 64 bits. -/
namespace Go.Proofs.YtihhflajkohibaaGreatDoor.Link
set_option linter.unusedSimpArgs false
set_option linter.unusedVariables false
set_option maxRecDepth 100000
open Go.RowKit
/-- the reference's Right -/
theorem refRight_any (f : Fr) (w : World) :
    Calls Tryz.prog 42 #[f.val] w fun e w' => e = .returned (.bool f.right) ∧ Below w.heap.size w w' := by
  obtain ⟨k, ep, sq, ak, b⟩ := f
  have hbl := (Below.refl w.heap.size w).alloc (Nat.le_refl _) (.cells #[.int .i64 k, .int .i64 ep, .int .u64 sq, .int .u64 ak, .string b] 83)
  have HBL := Lib.hid hbl
  have hsz := empty_size b
  clear hbl
  unfold Fr.val
  by_cases a1 : ep < 0
  · have d1 : decide (ep < 0) = true := by simpa using a1
    rw [show Fr.right ⟨k, ep, sq, ak, b⟩ = false from by simp only [Fr.right, true_and, true_or, and_true]; first | (apply decide_eq_true; omega) | (apply decide_eq_false; omega)]
    go_enter Tryz.func42, Tryz.ntmps42
    go_wp2
    go_ret
    exact ⟨rfl, HBL.out⟩
  have d1 : decide (ep < 0) = false := by simp; omega
  by_cases a2 : 65535 < ep
  · have d2 : decide (65535 < ep) = true := by simpa using a2
    rw [show Fr.right ⟨k, ep, sq, ak, b⟩ = false from by simp only [Fr.right, true_and, true_or, and_true]; first | (apply decide_eq_true; omega) | (apply decide_eq_false; omega)]
    go_enter Tryz.func42, Tryz.ntmps42
    go_wp2
    go_ret
    exact ⟨rfl, HBL.out⟩
  have d2 : decide (65535 < ep) = false := by simp; omega
  by_cases a3 : 64 < b.size
  · have d3 : decide (64 < (b.size : Int)) = true := by simp; omega
    rw [show Fr.right ⟨k, ep, sq, ak, b⟩ = false from by simp only [Fr.right, true_and, true_or, and_true]; first | (apply decide_eq_true; omega) | (apply decide_eq_false; omega)]
    go_enter Tryz.func42, Tryz.ntmps42
    go_wp2
    go_ret
    exact ⟨rfl, HBL.out⟩
  have d3 : decide (64 < (b.size : Int)) = false := by simp; omega
  by_cases h1 : k = 1
  · subst h1
    rw [show Fr.right ⟨1, ep, sq, ak, b⟩ = true from by simp only [Fr.right, true_and, true_or, and_true]; first | (apply decide_eq_true; omega) | (apply decide_eq_false; omega)]
    go_enter Tryz.func42, Tryz.ntmps42
    go_wp2
    go_ret
    exact ⟨rfl, HBL.out⟩
  have k1 : (k == 1) = false := beq_eq_false_iff_ne.2 h1
  by_cases h2 : k = 2
  · subst h2
    by_cases a4 : b.size = 0
    · rw [decide_eq_true a4] at hsz
      rw [show Fr.right ⟨2, ep, sq, ak, b⟩ = true from by simp only [Fr.right, true_and, true_or, and_true]; first | (apply decide_eq_true; omega) | (apply decide_eq_false; omega)]
      go_enter Tryz.func42, Tryz.ntmps42
      go_wp2
      go_ret
      exact ⟨rfl, HBL.out⟩
    · rw [decide_eq_false a4] at hsz
      rw [show Fr.right ⟨2, ep, sq, ak, b⟩ = false from by simp only [Fr.right, true_and, true_or, and_true]; first | (apply decide_eq_true; omega) | (apply decide_eq_false; omega)]
      go_enter Tryz.func42, Tryz.ntmps42
      go_wp2
      go_ret
      exact ⟨rfl, HBL.out⟩
  · have k2 : (k == 2) = false := beq_eq_false_iff_ne.2 h2
    rw [show Fr.right ⟨k, ep, sq, ak, b⟩ = false from by simp only [Fr.right, true_and, true_or, and_true]; first | (apply decide_eq_true; omega) | (apply decide_eq_false; omega)]
    go_enter Tryz.func42, Tryz.ntmps42
    go_wp2
    go_ret
    exact ⟨rfl, HBL.out⟩
theorem refRight_is (f : Fr) (r : Bool) (h : f.right = r) (w : World) : Calls Tryz.prog 42 #[f.val] w fun e w' => e = .returned (.bool r) ∧ Below w.heap.size w w' := by subst h; exact refRight_any f w
theorem ack_step_iff {x : LE} {f : Fr} (hf : u f.ack = f.ack) {k : Nat} (h0 : k ≤ 1000) : f.ack = u (x.first + (k : Int)) ↔ x.step f = (k : Int) := by
  unfold LE.step
  rw [u_eq] at *
  rw [u_eq]
  omega
/-- what stands in memory behind the boxes' making: the end, the frame, the result -/
structure TakeSt (w : World) (G : List Nat) (y : LE) (k sq ak ep : Int) (b : ByteArray) (A : Option Addr) (c : Nat) (v : World) : Prop where
  bx : v.heap[w.heap.size]? = some (.cells (ends y A c) 30 (0, 0))
  bf : v.heap[w.heap.size + 1]? = some (.cells #[.int .i64 k, .int .i64 ep, .int .u64 sq, .int .u64 ak, .string b] 83 (0, 0))
  br : v.heap[w.heap.size + 2]? = some (.cells #[.int .i64 0, .int .i64 0, .int .i64 0, .int .i64 0, .slice none 0 0, .int .u64 0, .int .i64 0, .int .i64 0, .int .u64 0, .bool false, .int .i64 0] 30 (0, 0))
  low : Low w G y A c
  below : Below w.heap.size w v
theorem TakeSt.set {w v : World} {G : List Nat} {y z : LE} {k sq ak ep : Int} {b : ByteArray} {A A' : Option Addr} {c c' i : Nat} {t : Value} (h : TakeSt w G y k sq ak ep b A c v) (he : (ends y A c).setIfInBounds i t = ends z A' c') (hl : Low w G z A' c') :
    TakeSt w G z k sq ak ep b A' c' (v.setCell ⟨w.heap.size, i, none⟩ t) :=
  ⟨by rw [set_block h.bx, he], (set_other (p := ⟨w.heap.size, i, none⟩) (by simp) _).trans h.bf, (set_other (p := ⟨w.heap.size, i, none⟩) (by simp) _).trans h.br, hl, h.below.setCell (Nat.le_refl _) _⟩
/-- what the reference's Take hands back -/
def RefTaken (w : World) (G : List Nat) (x : LE) (f : Fr) (e : Ending) (w' : World) : Prop := ∃ A' c', e = .returned (.tuple #[.agg (ends (x.taken f) A' c'), .string (x.told f), .bool (x.isNext f)]) ∧ Low w' G (x.taken f) A' c' ∧ Below w.heap.size w w'
theorem RefTaken.mk' {w w' : World} {G : List Nat} {x y : LE} {f : Fr} {t : ByteArray} {n : Bool} {A' : Option Addr} {c' : Nat} (hy : x.taken f = y) (ht : x.told f = t) (hn : x.isNext f = n) (hl : Low w G y A' c') (hb : Below w.heap.size w w') :
    RefTaken w G x f (.returned (.tuple #[.agg (ends y A' c'), .string t, .bool n])) w' := by
  subst hy; subst ht; subst hn; exact ⟨A', c', rfl, hl.after hb, hb⟩
theorem Low.came {w : World} {G : List Nat} {x : LE} {A : Option Addr} {c k : Nat} (h : Low w G x A c) (hk0 : 0 < k) (hk : k ≤ x.bodies.length) :
    ∃ g off, A = some ⟨g, off, none⟩ ∧ (k = c → Low w G (x.came k) (some ⟨g, off, none⟩) 0) ∧ (k < c → Low w G (x.came k) (some ⟨g, off + k, none⟩) (c - k)) := by
  have hn : x.bodies ≠ [] := by rintro e; rw [e] at hk; simp at hk; omega
  have hv := h.some_ hn
  have hle := h.le
  have hmax := h.max
  rcases hv.place with ⟨rfl, rfl, rfl⟩ | ⟨g, off, rfl, rfl, _⟩
  · exfalso; omega
  · have hl : (x.came k).bodies.length = x.bodies.length - k := by simp [LE.came]
    have hm : (x.came k).bodies.map Value.string = (x.bodies.map Value.string).drop k := by simp [LE.came, List.map_drop]
    refine ⟨g, off, rfl, fun e => ⟨by rw [hl]; omega, Nat.zero_le _, fun hne => ?_⟩, fun e => ⟨by rw [hl]; omega, by omega, fun _ => ?_⟩⟩
    · exfalso; apply hne; apply List.eq_nil_of_length_eq_zero; rw [hl]; omega
    · have := hv.dropped k hk e g off rfl
      rw [Nat.mul_one] at this
      rw [hl, hm]; exact this
theorem TakeSt.came {w v w2 : World} {G : List Nat} {x : LE} {k sq ak ep : Int} {b : ByteArray} {A A' : Option Addr} {c c' n n' : Nat} {o : Int} (h : TakeSt w G x k sq ak ep b A c v) (hx : x.Ok) (hn : n ≤ x.ever) (hn' : n' = x.bodies.length - n) (ho : o = max ((x.out : Int) - (n : Int)) 0) (hl : Low w G (x.came n) A' c')
    (e : w2 = (((((v.setCell ⟨w.heap.size, 4, none⟩ (.slice A' n' c')).setCell ⟨w.heap.size, 5, none⟩ (.int .u64 (IntKind.u64.wrap (x.first + (n : Int))))).setCell ⟨w.heap.size, 6, none⟩ (.int .i64 o)).setCell ⟨w.heap.size, 7, none⟩ (.int .i64 ((x.ever : Int) - (n : Int)))).setCell ⟨w.heap.size, 10, none⟩ (.int .i64 0))) :
    TakeSt w G (x.came n) k sq ak ep b A' c' w2 := by
  subst e; subst hn'; subst ho
  have h1 := hx.oe
  have h2 := hx.ew
  have h3 := hx.el
  have h4 := hx.oe
  have hom : (((x.out - n : Nat) : Int)) = max ((x.out : Int) - (n : Int)) 0 := by omega
  have hev : (((x.ever - n : Nat) : Int)) = (x.ever : Int) - (n : Int) := by omega
  have hdl : (x.came n).bodies.length = x.bodies.length - n := by simp [LE.came]
  refine ⟨?_, ?_, ?_, hl, ((((h.below.setCell (Nat.le_refl _) _).setCell (Nat.le_refl _) _).setCell (Nat.le_refl _) _).setCell (Nat.le_refl _) _).setCell (Nat.le_refl _) _⟩
  · rw [set_block (set_block (set_block (set_block (set_block h.bx 4 _) 5 _) 6 _) 7 _) 10 _, ← hom, ← hev]
    simp [ends, LE.came, u]
  · rw [set_other (p := ⟨w.heap.size, 10, none⟩) (by simp), set_other (p := ⟨w.heap.size, 7, none⟩) (by simp), set_other (p := ⟨w.heap.size, 6, none⟩) (by simp), set_other (p := ⟨w.heap.size, 5, none⟩) (by simp), set_other (p := ⟨w.heap.size, 4, none⟩) (by simp)]; exact h.bf
  · rw [set_other (p := ⟨w.heap.size, 10, none⟩) (by simp), set_other (p := ⟨w.heap.size, 7, none⟩) (by simp), set_other (p := ⟨w.heap.size, 6, none⟩) (by simp), set_other (p := ⟨w.heap.size, 5, none⟩) (by simp), set_other (p := ⟨w.heap.size, 4, none⟩) (by simp)]; exact h.br
set_option maxHeartbeats 4000000 in
theorem ref_take {w : World} {x : LE} {G : List Nat} {A : Option Addr} {c : Nat} (h : Low w G x A c) (hx : x.Ok) (k ep sq ak : Int) (b : ByteArray) (hak : u ak = ak) :
    Calls Tryz.prog 52 #[.agg (ends x A c), .agg #[.int .i64 k, .int .i64 ep, .int .u64 sq, .int .u64 ak, .string b]] w (RefTaken w G x ⟨k, ep, sq, ak, b⟩) := by
  have h1 := hx.w8
  have h2 := hx.ew
  have h3 := hx.el
  have h4 := hx.oe
  have hst : TakeSt w G x k sq ak ep b A c (((w.alloc (.cells (ends x A c) 30)).alloc (.cells #[.int .i64 k, .int .i64 ep, .int .u64 sq, .int .u64 ak, .string b] 83)).alloc (.cells #[.int .i64 0, .int .i64 0, .int .i64 0, .int .i64 0, .slice none 0 0, .int .u64 0, .int .i64 0, .int .i64 0, .int .u64 0, .bool false, .int .i64 0] 30)) := by
    refine ⟨?_, ?_, heap_new_at _ _ _ (by simp), h, (((Below.refl _ _).alloc (Nat.le_refl _) _).alloc (by simp) _).alloc (by simp; omega) _⟩
    · rw [Below.heap_alloc _ _ _ (by simp; omega), Below.heap_alloc _ _ _ (by simp)]; exact heap_alloc_new w _
    · rw [Below.heap_alloc _ _ _ (by simp)]; exact heap_new_at _ _ _ (by simp)
  have HST := Lib.hid hst
  have HX := Lib.hid hx
  have HAK := Lib.hid hak
  clear h hx hst hak
  unfold ends at HST ⊢
  obtain ⟨r, hr⟩ : ∃ r, Fr.right ⟨k, ep, sq, ak, b⟩ = r := ⟨_, rfl⟩
  have HR := Lib.hid hr
  clear hr
  go_enter Tryz.func52, Tryz.ntmps52
  go_wp2_with fail
  refine (refRight_is ⟨k, ep, sq, ak, b⟩ r HR.out _).mono ?_
  rintro e w1 ⟨rfl, hb1⟩
  have hT1 : TakeSt w G x k sq ak ep b A c w1 := by
    have q := HST.out
    exact ⟨(hb1.block _ (lt_of_block q.bx)).trans q.bx, (hb1.block _ (lt_of_block q.bf)).trans q.bf, (hb1.block _ (lt_of_block q.br)).trans q.br, q.low, q.below.trans (hb1.mono q.below.size)⟩
  have HT1 := Lib.hid hT1
  clear hb1 hT1
  have hq0 := eleven HT1.out.bx
  have hr0 := eleven HT1.out.br
  have hr1 := eleven0 HT1.out.br
  have hq1 := eleven0 HT1.out.bx
  have f0 := cell_of_block HT1.out.bf 0
  have f1 := cell_of_block HT1.out.bf 1
  have f2 := cell_of_block HT1.out.bf 2
  have f3 := cell_of_block HT1.out.bf 3
  have f4 := cell_of_block HT1.out.bf 4
  simp at f0 f1 f2 f3 f4
  have HQ0 := Lib.hid hq0
  have HQ1 := Lib.hid hq1
  have HR0 := Lib.hid hr0
  have HR1 := Lib.hid hr1
  clear hq0 hq1 hr0 hr1
  cases hfit : x.fits ⟨k, ep, sq, ak, b⟩
  · have e1 : x.isNext ⟨k, ep, sq, ak, b⟩ = false := by simp [LE.isNext, hfit]
    have e2 : x.told ⟨k, ep, sq, ak, b⟩ = ⟨#[]⟩ := by unfold LE.told; rw [e1]; rfl
    have e3 : x.taken ⟨k, ep, sq, ak, b⟩ = x := by unfold LE.taken; rw [hfit]; rfl
    have hcase : r = false ∨ (r = true ∧ ep ≠ x.epoch) := by
      simp only [LE.fits, HR.out] at hfit
      cases r
      · exact .inl rfl
      · exact .inr ⟨rfl, by simpa using hfit⟩
    have hfin : ∀ w', Below w.heap.size w w' → RefTaken w G x ⟨k, ep, sq, ak, b⟩ (.returned (.tuple #[.agg (ends x A c), .string ⟨#[]⟩, .bool false])) w' := fun w' hb => RefTaken.mk' e3 e2 e1 HT1.out.low hb
    have HFIN := Lib.hid hfin
    clear e1 e2 e3 hfit hfin
    obtain ⟨_, _, _, _, _, _, _, _, _, _, _⟩ := HQ0.out
    obtain ⟨_, _, _, _, _, _, _, _, _, _, _⟩ := HR0.out
    obtain ⟨_, _, _, _, _, _, _, _, _, _, _⟩ := HR1.out
    have q := eleven_set HT1.out.br (.int .i64 x.epoch) (.int .i64 (x.window : Int)) (.int .i64 (x.queue : Int)) (.int .i64 (x.wait : Int)) (.slice A x.bodies.length c) (.int .u64 x.first) (.int .i64 (x.out : Int)) (.int .i64 (x.ever : Int)) (.int .u64 x.want) (.bool x.owes) (.int .i64 (x.age : Int))
    have Q := Lib.hid q
    clear q
    rcases hcase with rfl | ⟨rfl, hne⟩
    · go_wp2_with fail
      exact ret_row3 Tryz.results52 (w.heap.size + 2) _ _ _ _ _ rfl Q.out.1 rfl rfl Tryz.underlying30 rfl (by kernel_rfl) rfl (HFIN.out _ (HT1.out.below.trans (Q.out.2.below HT1.out.below.size (by simp))))
    · have d0 : (ep != x.epoch) = true := bne_iff_ne.2 hne
      clear hne
      go_wp2_with fail
      exact ret_row3 Tryz.results52 (w.heap.size + 2) _ _ _ _ _ rfl Q.out.1 rfl rfl Tryz.underlying30 rfl (by kernel_rfl) rfl (HFIN.out _ (HT1.out.below.trans (Q.out.2.below HT1.out.below.size (by simp))))
  · have hep : ep = x.epoch ∧ r = true := by
      simp only [LE.fits, HR.out, Bool.and_eq_true, decide_eq_true_eq] at hfit
      exact ⟨hfit.2, hfit.1⟩
    obtain ⟨rfl, rfl⟩ := hep
    have HF := Lib.hid hfit
    clear hfit
    obtain ⟨_, _, _, _, _, _, _, _, _, _, _⟩ := HQ0.out
    go_upto_block 0 with fail
    go_cut [] (fun wx => ∃ A' c', TakeSt w G (x.acked ⟨k, x.epoch, sq, ak, b⟩) k sq ak x.epoch b A' c' wx)
    case first =>
      go_wp2_with fail
      go_loop [7] (fun i => ∃ n : Nat, 1 ≤ n ∧ n ≤ x.ever + 1 ∧ i = .int .i64 (n : Int) ∧ ∀ j : Nat, 1 ≤ j → j < n → x.step ⟨k, x.epoch, sq, ak, b⟩ ≠ (j : Int)) (fun i => x.ever + 1 - (intOf i).toNat)
      case atStart => exact ⟨1, Nat.le_refl _, by omega, rfl, fun j h1 h2 => by omega⟩
      case round =>
        obtain ⟨n, hn1, hn2, rfl, hno⟩ := hrel
        have HNO := Lib.hid hno
        clear hno
        have hconv := conv_in (n : Int) (by omega) (by omega)
        by_cases hlt : n ≤ x.ever
        · have hd1 : decide (n ≤ x.ever) = true := by simpa using hlt
          have hiff := ack_step_iff (x := x) (f := ⟨k, x.epoch, sq, ak, b⟩) HAK.out (k := n) (by omega)
          by_cases hm : ak = u (x.first + (n : Int))
          · have hd2 : (ak == IntKind.u64.wrap (x.first + (n : Int))) = true := beq_iff_eq.2 hm
            have hstep := hiff.1 hm
            have hack : x.acked ⟨k, x.epoch, sq, ak, b⟩ = x.came n := by
              unfold LE.acked; rw [hstep, if_pos ⟨by omega, by omega⟩]; rfl
            have HACK := Lib.hid hack
            clear hm hiff hstep hack
            obtain ⟨g, off, rfl, hca, hcb⟩ := HT1.out.low.came (k := n) (by omega) (by omega)
            have g0 : (0 : Int) ≤ (n : Int) := by omega
            have hle := HT1.out.low.le
            have hmx := HT1.out.low.max
            unfold maxLen at hmx
            have g1 : (n : Int) ≤ (c : Int) := by omega
            obtain ⟨_, _, _, _, _, _, _, _, _, _, _⟩ := HQ1.out
            have fin : ∀ (A' : Option Addr) (n' c' : Nat) (o : Int) (w2 : World), n' = x.bodies.length - n → o = max ((x.out : Int) - (n : Int)) 0 → Low w G (x.came n) A' c' →
                w2 = (((((w1.setCell ⟨w.heap.size, 4, none⟩ (.slice A' n' c')).setCell ⟨w.heap.size, 5, none⟩ (.int .u64 (IntKind.u64.wrap (x.first + (n : Int))))).setCell ⟨w.heap.size, 6, none⟩ (.int .i64 o)).setCell ⟨w.heap.size, 7, none⟩ (.int .i64 ((x.ever : Int) - (n : Int)))).setCell ⟨w.heap.size, 10, none⟩ (.int .i64 0)) →
                TakeSt w G (x.acked ⟨k, x.epoch, sq, ak, b⟩) k sq ak x.epoch b A' c' w2 := fun A' n' c' o w2 e1 e2 e3 e4 => by rw [HACK.out]; exact HT1.out.came HX.out hlt e1 e2 e3 e4
            have FIN := Lib.hid fin
            clear fin
            by_cases hck : n = c
            · have HLW := Lib.hid (hca hck)
              clear hca hcb
              subst hck
              go_wp2_with fail
              all_goals
                go_meet
                exact ⟨_, 0, FIN.out _ 0 0 _ _ (by omega) (by omega) HLW.out rfl⟩
            · have hlt2 : (n : Int) < (c : Int) := by omega
              have HLW := Lib.hid (hcb (by omega))
              clear hca hcb hck
              go_wp2_with fail
              all_goals
                go_meet
                exact ⟨_, c - n, FIN.out _ (x.bodies.length - n) _ _ _ rfl (by omega) HLW.out rfl⟩
          · have hd2 : (ak == IntKind.u64.wrap (x.first + (n : Int))) = false := beq_eq_false_iff_ne.2 hm
            have hns : x.step ⟨k, x.epoch, sq, ak, b⟩ ≠ (n : Int) := fun e => hm (hiff.2 e)
            have HNS := Lib.hid hns
            clear hm hiff hns
            go_wp2_with fail
            go_round
            case rel => exact ⟨n + 1, by omega, by omega, by go_num, fun j h1 h2 => (Nat.lt_or_ge j n).elim (HNO.out j h1) (fun h3 => (show j = n by omega) ▸ HNS.out)⟩
            case measure => simp [intOf]; omega
        · have hd1 : decide (n ≤ x.ever) = false := by simpa using hlt
          have hack : x.acked ⟨k, x.epoch, sq, ak, b⟩ = x := by
            unfold LE.acked
            refine if_neg fun hc => ?_
            obtain ⟨m, hm⟩ := Int.eq_ofNat_of_zero_le (Int.le_of_lt hc.1)
            rw [hm] at hc
            exact HNO.out m (by omega) (by omega) hm
          have HACK := Lib.hid hack
          clear hack
          go_wp2_with fail
          go_meet
          exact ⟨A, c, by rw [HACK.out]; exact HT1.out⟩
    case rest =>
      obtain ⟨A2, c2, hT⟩ := hcut
      have hwant : (x.acked ⟨k, x.epoch, sq, ak, b⟩).want = x.want := LE.acked_want _
      have htk := taken_cases (x := x) ⟨k, x.epoch, sq, ak, b⟩ HF.out
      have HTK := Lib.hid htk
      clear htk
      generalize x.acked ⟨k, x.epoch, sq, ak, b⟩ = y at *
      have HW := Lib.hid hwant
      have hkind : k = 1 ∨ k = 2 := by
        have := HR.out
        simp only [Fr.right, decide_eq_true_eq] at this
        omega
      have HT := Lib.hid hT
      clear hwant f0 f1 f2 f3 f4
      have f0 := cell_of_block HT.out.bf 0
      have f2 := cell_of_block HT.out.bf 2
      have f4 := cell_of_block HT.out.bf 4
      simp at f0 f2 f4
      obtain ⟨_, _, _, _, _, _, _, _, y8, _, _⟩ := eleven HT.out.bx
      obtain ⟨_, _, _, _, _, _, _, _, _, _, _⟩ := eleven0 HT.out.bx
      obtain ⟨_, _, _, _, _, _, _, _, _, _, _⟩ := eleven HT.out.br
      obtain ⟨_, _, _, _, _, _, _, _, _, _, _⟩ := eleven0 HT.out.br
      rw [HW.out] at y8
      clear hT
      rcases hkind with rfl | rfl
      · by_cases hsq : sq = x.want
        · obtain ⟨t1, t2, t3⟩ := HTK.out.2.2 rfl hsq
          have hz : TakeSt w G { y.owed with want := u (x.want + 1) } 1 sq ak x.epoch b A2 c2 ((wc.setCell ⟨w.heap.size, 9, none⟩ (.bool true)).setCell ⟨w.heap.size, 8, none⟩ (.int .u64 (IntKind.u64.wrap (x.want + 1)))) :=
            (HT.out.set (z := y.owed) (A' := A2) (c' := c2) (i := 9) (t := .bool true) (by simp [ends, LE.owed]) (HT.out.low.same rfl)).set (z := { y.owed with want := u (x.want + 1) }) (A' := A2) (c' := c2) (i := 8) (t := .int .u64 (IntKind.u64.wrap (x.want + 1))) (by simp [ends, LE.owed, u]) (HT.out.low.same rfl)
          have hfin : ∀ w', Below w.heap.size w w' → RefTaken w G x ⟨1, x.epoch, sq, ak, b⟩ (.returned (.tuple #[.agg #[.int .i64 y.epoch, .int .i64 (y.window : Int), .int .i64 (y.queue : Int), .int .i64 (y.wait : Int), .slice A2 y.bodies.length c2, .int .u64 y.first, .int .i64 (y.out : Int), .int .i64 (y.ever : Int), .int .u64 (IntKind.u64.wrap (x.want + 1)), .bool true, .int .i64 (y.age : Int)], .string b, .bool true])) w' := fun w' hb => RefTaken.mk' t1 t2 t3 (hz.low) hb
          have HFIN := Lib.hid hfin
          have HZ := Lib.hid hz
          clear t1 t2 t3 hz hfin
          subst hsq
          have hq := eleven HZ.out.bx
          have HQ := Lib.hid hq
          clear hq
          go_wp2_with fail
          refine' wp_flow [only 0 (.agg #[.int .i64 y.epoch, .int .i64 (y.window : Int), .int .i64 (y.queue : Int), .int .i64 (y.wait : Int), .slice A2 y.bodies.length c2, .int .u64 y.first, .int .i64 (y.out : Int), .int .i64 (y.ever : Int), .int .u64 (IntKind.u64.wrap (x.want + 1)), .bool true, .int .i64 (y.age : Int)]), only 1 _, only 2 _, (fun _ v => v.heap[w.heap.size + 2]? = some (.cells #[.int .i64 y.epoch, .int .i64 (y.window : Int), .int .i64 (y.queue : Int), .int .i64 (y.wait : Int), .slice A2 y.bodies.length c2, .int .u64 y.first, .int .i64 (y.out : Int), .int .i64 (y.ever : Int), .int .u64 (IntKind.u64.wrap (x.want + 1)), .bool true, .int .i64 (y.age : Int)] 30 (0, 0))), only 4 _, only 5 _, (fun _ v => v.heap[w.heap.size + 2]? = some (.cells #[.int .i64 0, .int .i64 0, .int .i64 0, .int .i64 0, .slice none 0 0, .int .u64 0, .int .i64 0, .int .i64 0, .int .u64 0, .bool false, .int .i64 0] 30 (0, 0)))] (fun v => v.heap[w.heap.size]? = some (.cells (ends { y.owed with want := u (x.want + 1) } A2 c2) 30 (0, 0)) ∧ v.cell? ⟨w.heap.size + 1, 4, none⟩ = some (.string b) ∧ Below w.heap.size w v) [[], [], [1], [0, 6], [2], []] [[], [], [], [6], [], []] [[], [], [], [], [], []] [[6], [3, 6], [3, 6], [], [3, 6], [3, 6]] [3, 6] [0, 0, 2, 1, 7, 7] _ (fun us => ?hfr) (by kernel_rfl) (by kernel_rfl) (by kernel_rfl) ⟨only_still _, only_still _, only_still _, trivial, only_still _, only_still _, trivial, trivial⟩ (⟨HZ.out.bx, (by have q := cell_of_block HZ.out.bf 4; exact q), below_drewN HZ.out.below 1⟩) (by simp) (HZ.out.br) ?hst ?hla
          case hfr => (simp only [List.cons_append, List.nil_append, putAll, Act.put, List.setIfInBounds_toArray, List.set_cons_zero, List.set_cons_succ, Nat.reduceAdd]; rfl)
          case hst =>
            refine ⟨?_, ?_, ?_, ?_, ?_, ?_, trivial⟩
            · intro us v hR hn ho K hK
              clear ho
              obtain ⟨r1, r2, r3⟩ := id hR; obtain ⟨z0, z1, z2, z3, z4, z5, z6, z7, z8, z9, z10⟩ := eleven r1; simp only [LE.owed, u] at z0 z1 z2 z3 z4 z5 z6 z7 z8 z9 z10
              rw [if_pos (by rfl)]
              go_simp
              refine hK _ _ _ (by simp only [Act.put, List.setIfInBounds_toArray, List.set_cons_zero, List.set_cons_succ, Nat.reduceAdd] <;> rfl) ?_ hR ⟨fun h => h, trivial⟩
              refine only_mk (v := v) ?_
              with_reducible rfl
            · intro us v hR hn ho K hK
              clear ho
              obtain ⟨r1, r2, r3⟩ := id hR; obtain ⟨z0, z1, z2, z3, z4, z5, z6, z7, z8, z9, z10⟩ := eleven r1; simp only [LE.owed, u] at z0 z1 z2 z3 z4 z5 z6 z7 z8 z9 z10
              rw [if_pos (by rfl)]
              go_simp
              refine hK _ _ _ (by simp only [Act.put, List.setIfInBounds_toArray, List.set_cons_zero, List.set_cons_succ, Nat.reduceAdd] <;> rfl) ?_ hR ⟨fun h => h, fun h => h, trivial⟩
              refine only_mk (v := v) ?_
              with_reducible rfl
            · intro us v hR hn ho K hK
              obtain ⟨n1, -⟩ := hn
              have n1 : us 1 = _ := n1
              clear ho
              obtain ⟨r1, r2, r3⟩ := id hR; obtain ⟨z0, z1, z2, z3, z4, z5, z6, z7, z8, z9, z10⟩ := eleven r1; simp only [LE.owed, u] at z0 z1 z2 z3 z4 z5 z6 z7 z8 z9 z10
              rw [if_pos (by rfl)]
              go_simp
              refine hK _ _ _ (by simp only [Act.put, List.setIfInBounds_toArray, List.set_cons_zero, List.set_cons_succ, Nat.reduceAdd, n1] <;> rfl) ?_ hR ⟨fun h => h, fun h => h, trivial⟩
              refine only_mk (v := v) ?_
              with_reducible rfl
            · intro us v hR hn ho K hK
              obtain ⟨n0, ns, -⟩ := hn
              have n0 : us 0 = _ := n0
              clear ho
              obtain ⟨r1, r2, r3⟩ := id hR; obtain ⟨z0, z1, z2, z3, z4, z5, z6, z7, z8, z9, z10⟩ := eleven r1; simp only [LE.owed, u] at z0 z1 z2 z3 z4 z5 z6 z7 z8 z9 z10
              rw [if_pos (by rfl)]
              refine wp_store_all 30 (.tmp 4) (.tmp 70) (by rfl) (w.heap.size + 2) _ _ _ (by rfl) n0 ns rfl (by kernel_rfl) (by simp [Value.oneCell']) ?_
              intro v' hq hk
              refine hK undef _ _ (by simp only [Act.put, List.setIfInBounds_toArray, List.set_cons_zero, List.set_cons_succ, Nat.reduceAdd, n0] <;> rfl) hq ⟨(hk.block _ (lt_of_block r1) (by simp)).trans r1, (hk.cell (p := ⟨w.heap.size + 1, 4, none⟩) (by have := lt_of_block ns; simp; omega) (by simp)).trans r2, r3.trans (hk.below r3.size (by simp))⟩ trivial
            · intro us v hR hn ho K hK
              obtain ⟨n2, -⟩ := hn
              have n2 : us 2 = _ := n2
              clear ho
              obtain ⟨r1, r2, r3⟩ := id hR; obtain ⟨z0, z1, z2, z3, z4, z5, z6, z7, z8, z9, z10⟩ := eleven r1; simp only [LE.owed, u] at z0 z1 z2 z3 z4 z5 z6 z7 z8 z9 z10
              rw [if_pos (by rfl)]
              go_simp
              refine hK _ _ _ (by simp only [Act.put, List.setIfInBounds_toArray, List.set_cons_zero, List.set_cons_succ, Nat.reduceAdd, n2] <;> rfl) ?_ hR ⟨fun h => h, fun h => h, trivial⟩
              refine only_mk (v := v) ?_
              with_reducible rfl
            · intro us v hR hn ho K hK
              clear ho
              obtain ⟨r1, r2, r3⟩ := id hR; obtain ⟨z0, z1, z2, z3, z4, z5, z6, z7, z8, z9, z10⟩ := eleven r1; simp only [LE.owed, u] at z0 z1 z2 z3 z4 z5 z6 z7 z8 z9 z10
              rw [if_pos (by rfl)]
              go_simp
              refine hK _ _ _ (by simp only [Act.put, List.setIfInBounds_toArray, List.set_cons_zero, List.set_cons_succ, Nat.reduceAdd] <;> rfl) ?_ hR ⟨fun h => h, fun h => h, trivial⟩
              refine only_mk (v := v) ?_
              with_reducible rfl
          case hla =>
            intro us v hR hl
            obtain ⟨n0, n1, n2, n3, n4, n5, -⟩ := need_last hl [0, 1, 2, 3, 4, 5] (by kernel_rfl)
            have n0 : us 0 = _ := n0
            have n1 : us 1 = _ := n1
            have n2 : us 2 = _ := n2
            have n4 : us 4 = _ := n4
            have n5 : us 5 = _ := n5
            obtain ⟨r1, r2, r3⟩ := id hR; obtain ⟨z0, z1, z2, z3, z4, z5, z6, z7, z8, z9, z10⟩ := eleven r1; simp only [LE.owed, u] at z0 z1 z2 z3 z4 z5 z6 z7 z8 z9 z10
            simp only [n0, n1, n2, n4, n5]
            clear hl n0 n1 n2 n4 n5
            obtain ⟨r1, r2, r3⟩ := id hR
            go_wp2_with fail
            exact ret_row3 Tryz.results52 (w.heap.size + 2) _ _ _ _ _ rfl n3 rfl rfl Tryz.underlying30 rfl (by kernel_rfl) rfl (HFIN.out _ r3)
        · have d1 : (sq == x.want) = false := beq_eq_false_iff_ne.2 hsq
          obtain ⟨t1, t2, t3⟩ := HTK.out.2.1 rfl hsq
          have hz : TakeSt w G y.owed 1 sq ak x.epoch b A2 c2 (wc.setCell ⟨w.heap.size, 9, none⟩ (.bool true)) := HT.out.set (z := y.owed) (A' := A2) (c' := c2) (i := 9) (t := .bool true) (by simp [ends, LE.owed]) (HT.out.low.same rfl)
          have hfin : ∀ w', Below w.heap.size w w' → RefTaken w G x ⟨1, x.epoch, sq, ak, b⟩ (.returned (.tuple #[.agg (ends y.owed A2 c2), .string ⟨#[]⟩, .bool false])) w' := fun w' hb => RefTaken.mk' t1 t2 t3 hz.low hb
          have HFIN := Lib.hid hfin
          have HZ := Lib.hid hz
          have q := eleven_set hz.br (.int .i64 y.epoch) (.int .i64 (y.window : Int)) (.int .i64 (y.queue : Int)) (.int .i64 (y.wait : Int)) (.slice A2 y.bodies.length c2) (.int .u64 y.first) (.int .i64 (y.out : Int)) (.int .i64 (y.ever : Int)) (.int .u64 x.want) (.bool true) (.int .i64 (y.age : Int))
          have Q := Lib.hid q
          clear t1 t2 t3 hz hfin hsq q
          simp only [ends, LE.owed, HW.out] at HFIN
          go_wp2_with fail
          exact ret_row3 Tryz.results52 (w.heap.size + 2) _ _ _ _ _ rfl Q.out.1 rfl rfl Tryz.underlying30 rfl (by kernel_rfl) rfl (HFIN.out _ (HZ.out.below.trans (Q.out.2.below HZ.out.below.size (by simp))))
      · obtain ⟨t1, t2, t3⟩ := HTK.out.1 (by show (2 : Int) ≠ 1; decide)
        have hfin : ∀ w', Below w.heap.size w w' → RefTaken w G x ⟨2, x.epoch, sq, ak, b⟩ (.returned (.tuple #[.agg (ends y A2 c2), .string ⟨#[]⟩, .bool false])) w' := fun w' hb => RefTaken.mk' t1 t2 t3 HT.out.low hb
        have HFIN := Lib.hid hfin
        have q := eleven_set HT.out.br (.int .i64 y.epoch) (.int .i64 (y.window : Int)) (.int .i64 (y.queue : Int)) (.int .i64 (y.wait : Int)) (.slice A2 y.bodies.length c2) (.int .u64 y.first) (.int .i64 (y.out : Int)) (.int .i64 (y.ever : Int)) (.int .u64 x.want) (.bool y.owes) (.int .i64 (y.age : Int))
        have Q := Lib.hid q
        clear t1 t2 t3 hfin q
        simp only [ends, HW.out] at HFIN
        go_wp2_with fail
        exact ret_row3 Tryz.results52 (w.heap.size + 2) _ _ _ _ _ rfl Q.out.1 rfl rfl Tryz.underlying30 rfl (by kernel_rfl) rfl (HFIN.out _ (HT.out.below.trans (Q.out.2.below HT.out.below.size (by simp))))
end Go.Proofs.YtihhflajkohibaaGreatDoor.Link
