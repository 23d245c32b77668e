/- Layer 9, the reference: an end as a value: what each function makes of it. Conditions: the value's row lies (Vec), and the end is one that may be (Ok). -/
import Derived.Test.YtblaanohidldpaaLinkSame
import Derived.Test.YtblaanohidldpaaWhole
namespace Go.Proofs.Ytblaanohidldpaa.Link
set_option linter.unusedSimpArgs false
set_option linter.unusedVariables false
open Go.RowKit
theorem agg_new {epoch first window queue wait a b c : Int} (ha : a = ((clampN window 1 8 : Nat) : Int)) (hb : b = ((clampN queue 0 64 : Nat) : Int)) (hc : c = ((clampN wait 1 100 : Nat) : Int)) :
    Ending.returned (.agg #[.int .i64 epoch, .int .i64 a, .int .i64 b, .int .i64 c, .slice none 0 0, .int .u64 first, .int .i64 0, .int .i64 0, .int .u64 first, .bool false, .int .i64 0]) = .returned (.agg (ends (new epoch first window queue wait) none 0)) := by
  subst ha; subst hb; subst hc; rfl
set_option maxHeartbeats 8000000 in
theorem ref_new (epoch first window queue wait : Int) (w : World) :
    Calls Try.prog 16 #[.int .i64 epoch, .int .u64 first, .int .i64 window, .int .i64 queue, .int .i64 wait] w fun e w' => e = .returned (.agg (ends (new epoch first window queue wait) none 0)) ∧ Below w.heap.size w w' := by
  have h1 : ((clampN window 1 8 : Nat) : Int) = min (max window 1) 8 := by unfold clampN; omega
  have h2 : ((clampN queue 0 64 : Nat) : Int) = min (max queue 0) 64 := by unfold clampN; omega
  have h3 : ((clampN wait 1 100 : Nat) : Int) = min (max wait 1) 100 := by unfold clampN; omega
  have H1 := Lib.hid h1
  have H2 := Lib.hid h2
  have H3 := Lib.hid h3
  clear h1 h2 h3
  go_enter Try.func16, Try.ntmps16
  go_wp2
  all_goals
    exact bodyPost_ret (v := .agg #[.int .i64 epoch, .int .i64 _, .int .i64 _, .int .i64 _, .slice none 0 0, .int .u64 first, .int .i64 0, .int .i64 0, .int .u64 first, .bool false, .int .i64 0]) (by simp [results, Try.results16, go_sem]; exact ⟨rfl, rfl, rfl⟩) rfl ⟨agg_new (by rw [H1.out]; omega) (by rw [H2.out]; omega) (by rw [H3.out]; omega), (Below.refl _ _).alloc (Nat.le_refl _) _⟩
set_option maxHeartbeats 2000000 in
theorem ref_tick {w : World} {x : LE} (hx : x.Ok) (A : Option Addr) (c : Nat) :
    Calls Try.prog 21 #[.agg (ends x A c)] w fun e w' => e = .returned (.agg (ends x.ticked A c)) ∧ Below w.heap.size w w' := by
  have h1 := hx.t1
  have h2 := hx.age
  have h3 := hx.t100
  unfold ends
  by_cases ho : x.out = 0
  · have hd : decide (0 < x.out) = false := by simp [ho]
    have e1 : x.ticked = x := by unfold LE.ticked; rw [if_pos ho]
    rw [e1]
    clear e1 ho
    go_enter Try.func21, Try.ntmps21
    go_wp2
    exact bodyPost_ret (v := _) (by simp [results, Try.results21, go_sem]; rfl) rfl ⟨ret_eq (by simp), ((Below.refl _ _).alloc (Nat.le_refl _) _).alloc (by simp) _⟩
  · have hd : decide (0 < x.out) = true := by simp; omega
    by_cases hw : x.wait ≤ x.age + 1
    · have hd2 : ((x.age : Int) + 1 == (x.wait : Int)) = true := by rw [beq_iff_eq]; omega
      have e1 : x.ticked = { x with out := 0, age := 0 } := by unfold LE.ticked; rw [if_neg ho, if_pos hw]
      rw [e1]
      clear e1 ho hw
      go_enter Try.func21, Try.ntmps21
      go_wp2
      exact bodyPost_ret (v := _) (by simp [results, Try.results21, go_sem]; rfl) rfl ⟨ret_eq (by simp), ((Below.refl _ _).alloc (Nat.le_refl _) _).alloc (by simp) _⟩
    · have hd2 : ((x.age : Int) + 1 == (x.wait : Int)) = false := by rw [beq_eq_false_iff_ne]; omega
      have e1 : x.ticked = { x with age := x.age + 1 } := by unfold LE.ticked; rw [if_neg ho, if_neg hw]
      rw [e1]
      clear e1 ho hw
      go_enter Try.func21, Try.ntmps21
      go_wp2
      exact bodyPost_ret (v := _) (by simp [results, Try.results21, go_sem]; rfl) rfl ⟨ret_eq (by simp), ((Below.refl _ _).alloc (Nat.le_refl _) _).alloc (by simp) _⟩
theorem vec_empty (w : World) (e : TypeId) (size g : Nat) (hg : w.heap.size = g) : Vec (w.alloc (.cells #[] e)) [g] size (some ⟨g, 0, none⟩) 0 0 [] := by
  subst hg
  have h := Vec.of_new (w := w.alloc (.cells #[] e)) (e := e) (g := w.heap.size) #[] size 0 0 (Nat.le_refl _) (Nat.zero_le _) (by simp) (heap_alloc_new w _)
  simpa using h
/-- the bodies of an end as a value: where there are any, they lie -/
structure Low (w : World) (G : List Nat) (x : LE) (A : Option Addr) (c : Nat) : Prop where
  le : x.bodies.length ≤ c
  max : c ≤ maxLen
  some_ : x.bodies ≠ [] → Vec w G 1 A x.bodies.length c (x.bodies.map .string)
section
variable {w w' : World} {G : List Nat} {x y : LE} {A : Option Addr} {c : Nat}
theorem Low.of_vec (h : Vec w G 1 A x.bodies.length c (x.bodies.map .string)) : Low w G x A c := ⟨h.le, h.max, fun _ => h⟩
theorem Low.keep (h : Low w G x A c) (hs : w.heap.size ≤ w'.heap.size) (hb : ∀ k, k ∈ G → w'.heap[k]? = w.heap[k]?) : Low w' G x A c := ⟨h.le, h.max, fun hn => (h.some_ hn).keep hs hb⟩
theorem Low.alloc (h : Low w G x A c) (o : Obj) : Low (w.alloc o) G x A c := ⟨h.le, h.max, fun hn => (h.some_ hn).alloc o⟩
theorem Low.after (h : Low w G x A c) (hb : Below w.heap.size w w') : Low w' G x A c := ⟨h.le, h.max, fun hn => (h.some_ hn).after hb⟩
theorem Low.kept {L : List Nat} (h : Low w G x A c) (hk : Kept L w w') (hL : ∀ k, k ∈ G → k ∉ L) : Low w' G x A c := ⟨h.le, h.max, fun hn => (h.some_ hn).kept hk hL⟩
theorem Low.drewN (h : Low w G x A c) (n : Nat) : Low (w.drewN n) G x A c := ⟨h.le, h.max, fun hn => (h.some_ hn).drewN n⟩
theorem Low.drew (h : Low w G x A c) : Low w.drew G x A c := ⟨h.le, h.max, fun hn => (h.some_ hn).drew⟩
theorem Low.same (h : Low w G x A c) (e : y.bodies = x.bodies) : Low w G y A c := ⟨by rw [e]; exact h.le, h.max, by rw [e]; exact h.some_⟩
theorem Low.src (h : Low w G x A c) : Src Try.prog 1 23 (.slice A x.bodies.length c) x.bodies.length (x.bodies.map .string) w := by
  by_cases hn : x.bodies = []
  · rw [hn]
    cases A with
    | none => exact Src.ofNil w Try.underlying23 c
    | some a => exact Src.ofSlice w Try.underlying23 a 0 c [] rfl (by simp) (by simp)
  · exact (h.some_ hn).src Try.underlying23 (by simp [Value.oneCell'])
end
/-- two appends in a row, the first one to a new slice: what was there ahead of them stays -/
theorem two_app {w0 w1 w2 : World} {F F1 F2 : List Nat} {B : Nat} {o : Obj} (h1 : Turns F F1 w0 w1) (h2 : Turns F1 F2 (w1.alloc o) w2) (hB : B ≤ w0.heap.size) (hF : ∀ j, j ∈ F → B ≤ j) : Below B w0 w2 ∧ ∀ j, j ∈ F2 → B ≤ j := by
  obtain ⟨k1, k2⟩ := h1.below hB hF
  have hs := h1.kept.size
  obtain ⟨k3, k4⟩ := h2.below (B := B) (by simp; omega) k2
  exact ⟨(k1.alloc (by omega) o).trans k3, k4⟩
/-- eleven cells of a block -/
structure Eleven (w : World) (b : Nat) (a0 a1 a2 a3 a4 a5 a6 a7 a8 a9 a10 : Value) : Prop where
  c0 : w.cell? ⟨b, 0, none⟩ = some a0
  c1 : w.cell? ⟨b, 1, none⟩ = some a1
  c2 : w.cell? ⟨b, 2, none⟩ = some a2
  c3 : w.cell? ⟨b, 3, none⟩ = some a3
  c4 : w.cell? ⟨b, 4, none⟩ = some a4
  c5 : w.cell? ⟨b, 5, none⟩ = some a5
  c6 : w.cell? ⟨b, 6, none⟩ = some a6
  c7 : w.cell? ⟨b, 7, none⟩ = some a7
  c8 : w.cell? ⟨b, 8, none⟩ = some a8
  c9 : w.cell? ⟨b, 9, none⟩ = some a9
  c10 : w.cell? ⟨b, 10, none⟩ = some a10
theorem eleven {w : World} {b : Nat} {t : TypeId} {a0 a1 a2 a3 a4 a5 a6 a7 a8 a9 a10 : Value} (h : w.heap[b]? = some (.cells #[a0, a1, a2, a3, a4, a5, a6, a7, a8, a9, a10] t (0, 0))) : Eleven w b a0 a1 a2 a3 a4 a5 a6 a7 a8 a9 a10 := by
  constructor <;> (rw [cell_of_block h]; rfl)
structure Eleven0 (w : World) (b : Nat) : Prop where
  c0 : w.frozen? ⟨b, 0, none⟩ = false
  c1 : w.frozen? ⟨b, 1, none⟩ = false
  c2 : w.frozen? ⟨b, 2, none⟩ = false
  c3 : w.frozen? ⟨b, 3, none⟩ = false
  c4 : w.frozen? ⟨b, 4, none⟩ = false
  c5 : w.frozen? ⟨b, 5, none⟩ = false
  c6 : w.frozen? ⟨b, 6, none⟩ = false
  c7 : w.frozen? ⟨b, 7, none⟩ = false
  c8 : w.frozen? ⟨b, 8, none⟩ = false
  c9 : w.frozen? ⟨b, 9, none⟩ = false
  c10 : w.frozen? ⟨b, 10, none⟩ = false
theorem eleven0 {w : World} {b : Nat} {t : TypeId} {cs : Array Value} (h : w.heap[b]? = some (.cells cs t (0, 0))) : Eleven0 w b := by
  constructor <;> exact frozen_of_block h _
theorem eleven_set {w : World} {g : Nat} {T : TypeId} {o0 o1 o2 o3 o4 o5 o6 o7 o8 o9 o10 : Value} (h : w.heap[g]? = some (.cells #[o0, o1, o2, o3, o4, o5, o6, o7, o8, o9, o10] T (0, 0))) (a0 a1 a2 a3 a4 a5 a6 a7 a8 a9 a10 : Value) :
    (((((((((((w.setCell ⟨g, 0, none⟩ a0).setCell ⟨g, 1, none⟩ a1).setCell ⟨g, 2, none⟩ a2).setCell ⟨g, 3, none⟩ a3).setCell ⟨g, 4, none⟩ a4).setCell ⟨g, 5, none⟩ a5).setCell ⟨g, 6, none⟩ a6).setCell ⟨g, 7, none⟩ a7).setCell ⟨g, 8, none⟩ a8).setCell ⟨g, 9, none⟩ a9).setCell ⟨g, 10, none⟩ a10).heap[g]? = some (.cells #[a0, a1, a2, a3, a4, a5, a6, a7, a8, a9, a10] T (0, 0)) ∧ Kept [g] w (((((((((((w.setCell ⟨g, 0, none⟩ a0).setCell ⟨g, 1, none⟩ a1).setCell ⟨g, 2, none⟩ a2).setCell ⟨g, 3, none⟩ a3).setCell ⟨g, 4, none⟩ a4).setCell ⟨g, 5, none⟩ a5).setCell ⟨g, 6, none⟩ a6).setCell ⟨g, 7, none⟩ a7).setCell ⟨g, 8, none⟩ a8).setCell ⟨g, 9, none⟩ a9).setCell ⟨g, 10, none⟩ a10) := by
  refine ⟨?_, ((((((((((((Kept.refl _ _).setCell (.inl (by simp)) _).setCell (.inl (by simp)) _).setCell (.inl (by simp)) _).setCell (.inl (by simp)) _).setCell (.inl (by simp)) _).setCell (.inl (by simp)) _).setCell (.inl (by simp)) _).setCell (.inl (by simp)) _).setCell (.inl (by simp)) _).setCell (.inl (by simp)) _).setCell (.inl (by simp)) _)⟩
  have k := (set_block (set_block (set_block (set_block (set_block (set_block (set_block (set_block (set_block (set_block (set_block h 0 a0) 1 a1) 2 a2) 3 a3) 4 a4) 5 a5) 6 a6) 7 a7) 8 a8) 9 a9) 10 a10)
  simpa using k
set_option maxHeartbeats 4000000 in
theorem ref_send {w : World} {x : LE} {G : List Nat} {A : Option Addr} {c : Nat} (h : Low w G x A c) (hx : x.Ok) (b : ByteArray) :
    Calls Try.prog 17 #[.agg (ends x A c), .string b] w fun e w' => ∃ A' c' G', e = .returned (.tuple #[.agg (ends (x.sent b) A' c'), .int .i64 (x.sendE b)]) ∧
      Low w' G' (x.sent b) A' c' ∧ (∀ k, k ∈ G' → k ∈ G ∨ w.heap.size ≤ k) ∧ Below w.heap.size w w' := by
  have hq := hx.q64
  have hle := hx.len
  obtain ⟨i0, hi0, hz0, hz1, hz2⟩ := info_parts str_info
  by_cases hl : 64 < b.size
  · have hd : decide (64 < (b.size : Int)) = true := by simp; omega
    have e1 : x.sendE b = 90 := by unfold LE.sendE; rw [if_pos hl]
    have e2 : x.sent b = x := by unfold LE.sent; rw [if_neg (by omega)]
    rw [e1, e2]
    have H := Lib.hid h
    clear e1 e2 h
    unfold ends
    go_enter Try.func17, Try.ntmps17
    go_wp2
    exact bodyPost_ret (v := _) (by simp [results, Try.results17, go_sem]) rfl ⟨A, c, G, rfl, (H.out.alloc _).alloc _, fun _ hk => .inl hk, ((Below.refl _ _).alloc (Nat.le_refl _) _).alloc (by simp) _⟩
  · have hd : decide (64 < (b.size : Int)) = false := by simp; omega
    by_cases hf : x.queue ≤ x.bodies.length
    · have hd2 : decide (x.queue ≤ x.bodies.length) = true := by simpa using hf
      have e1 : x.sendE b = 91 := by unfold LE.sendE; rw [if_neg hl, if_pos hf]
      have e2 : x.sent b = x := by unfold LE.sent; rw [if_neg (by omega)]
      rw [e1, e2]
      have H := Lib.hid h
      clear e1 e2 h
      unfold ends
      go_enter Try.func17, Try.ntmps17
      go_wp2
      exact bodyPost_ret (v := _) (by simp [results, Try.results17, go_sem]) rfl ⟨A, c, G, rfl, (H.out.alloc _).alloc _, fun _ hk => .inl hk, ((Below.refl _ _).alloc (Nat.le_refl _) _).alloc (by simp) _⟩
    · have hd2 : decide (x.queue ≤ x.bodies.length) = false := by simpa using hf
      have e1 : x.sendE b = 0 := by unfold LE.sendE; rw [if_neg hl, if_neg hf]
      have e2 : x.sent b = { x with bodies := x.bodies ++ [b] } := by unfold LE.sent; rw [if_pos (by omega)]
      rw [e1, e2]
      have H := Lib.hid h
      clear e1 e2 h
      have hbig : x.bodies.length ≤ 64 := by omega
      clear hf
      unfold ends
      go_enter Try.func17, Try.ntmps17
      go_wp2_with (at_builtin; first
        | (refine wpList_append_vec _ (by rfl) _ _ _ _ (by rfl) 9 i0 _ 1 16 Try.underlying23 hi0 hz0 hz1 hz2 rfl [w.heap.size + 1 + 1] (some ⟨w.heap.size + 1 + 1, 0, none⟩) 0 0 [] _ x.bodies.length (x.bodies.map .string) (by rfl) (by rfl) (by exact vec_empty _ _ _ _ (by simp)) (by exact (((H.out.alloc _).alloc _).alloc _).src) (by unfold maxLen; omega) (by omega) ?_
           intro v' w1 happ
           rw [Nat.zero_add, List.nil_append] at happ
           obtain ⟨F1, A1, c1, rfl, hv1, ht1⟩ := happ.all
           have HV1 := Lib.hid hv1
           have HT1 := Lib.hid ht1
           clear happ hv1 ht1)
        | go_loud (refine wpList_append_vec _ (by rfl) _ _ _ _ (by rfl) 9 i0 _ 1 16 Try.underlying23 hi0 hz0 hz1 hz2 rfl F1 A1 x.bodies.length c1 (x.bodies.map .string) _ 1 [.string b] (by rfl) (by rfl) (by exact HV1.out.alloc _) (by exact src_new _ Try.underlying23 [.string b] 1 1 1 rfl (by simp [Value.oneCell']) _ (heap_alloc_new w1 _)) (by unfold maxLen; omega) (by omega) ?_; intro v' w2 happ; obtain ⟨F2, A2, c2, rfl, hv2, ht2⟩ := happ.all; obtain ⟨hb2, hF2⟩ := two_app (B := w.heap.size + 2) HT1.out ht2 (by simp) (by simp); have HV2 := Lib.hid hv2; have HB2 := Lib.hid hb2; have HF2 := Lib.hid hF2; have q0 := (hb2.block w.heap.size (by omega)).trans ((Below.heap_alloc _ _ _ (by simp; omega)).trans ((Below.heap_alloc _ _ _ (by simp)).trans (heap_alloc_new w _))); have q1 := (hb2.block (w.heap.size + 1) (by omega)).trans ((Below.heap_alloc _ _ _ (by simp)).trans (heap_new_at _ _ _ (by simp))); clear happ hv2 ht2 hb2 hF2; have ⟨_, _, _, _, _, _, _, _, _, _, _⟩ := eleven q0; have ⟨_, _, _, _, _, _, _, _, _, _, _⟩ := eleven q1; have ⟨_, _, _, _, _, _, _, _, _, _, _⟩ := eleven0 q0; have ⟨_, _, _, _, _, _, _, _, _, _, _⟩ := eleven0 q1; have Q0 := Lib.hid q0; have Q1 := Lib.hid q1; clear q0 q1))
      have hk : ∀ wf, Kept [w.heap.size, w.heap.size + 1] w2 wf → Vec wf F2 1 A2 (x.bodies ++ [b]).length c2 ((x.bodies ++ [b]).map Value.string) ∧ Below w.heap.size w wf := fun wf hk => ⟨by simpa using HV2.out.kept hk (fun k hk => by have := HF2.out k hk; simp; omega),
        (((((Below.refl _ _).alloc (Nat.le_refl _) _).alloc (by simp) _).alloc (by simp; omega) _).trans (HB2.out.mono (by omega))).trans (hk.below (by have := HB2.out.size; simp at this; omega) (by simp))⟩
      have HK := Lib.hid hk
      clear hk
      have q := eleven_set ((set_other (w := w2) (p := ⟨w.heap.size, 4, none⟩) (g := w.heap.size + 1) (by simp) (.slice A2 (x.bodies.length + 1) c2)).trans Q1.out) (.int .i64 x.epoch) (.int .i64 (x.window : Int)) (.int .i64 (x.queue : Int)) (.int .i64 (x.wait : Int)) (.slice A2 (x.bodies.length + 1) c2) (.int .u64 x.first) (.int .i64 (x.out : Int)) (.int .i64 (x.ever : Int)) (.int .u64 x.want) (.bool x.owes) (.int .i64 (x.age : Int))
      refine ret_row2 Try.results17 (w.heap.size + 1) _ _ _ _ rfl q.1 rfl Try.underlying38 rfl (by kernel_rfl) rfl ?_
      obtain ⟨r1, r2⟩ := HK.out _ (((Kept.refl _ w2).setCell (p := ⟨w.heap.size, 4, none⟩) (.inl (by simp)) (.slice A2 (x.bodies.length + 1) c2)).trans (q.2.mono (by simp)))
      exact ⟨A2, c2, F2, ret_eq (by simp), Low.of_vec (x := { x with bodies := x.bodies ++ [b] }) r1, fun k hk => .inr (by have := HF2.out k hk; omega), r2⟩
end Go.Proofs.Ytblaanohidldpaa.Link
