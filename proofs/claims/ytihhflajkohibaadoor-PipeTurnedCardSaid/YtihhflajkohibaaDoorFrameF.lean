/- Layer 6: get hands back the frame that bytes are, or what is wrong and where. Conditions: the table of layer 5 lies. -/
import Derived.Test.YtihhflajkohibaaDoorFrameE
import Derived.Test.YtihhflajkohibaaDoorFrameErr
namespace Go.Proofs.YtihhflajkohibaaDoor.Frame
set_option linter.unusedSimpArgs false
set_option linter.unusedVariables false
set_option maxRecDepth 100000
open Go.RowKit
open Go.Proofs.YtihhflajkohibaaDoor
open Go.Proofs.YtihhflajkohibaaDoor.Link (Fr right_is right_any frBox bcell ret_bool empty_size)

/-- get's answer where something is wrong -/
def Bad (w : World) (at_ : Nat) (no : Int) (e : Ending) (w' : World) : Prop :=
  ∃ g, e = .returned (.tuple #[Link.Fr.val noFr, .iface 98 (.pointer (some ⟨g, 0, none⟩))]) ∧ FaultAt w' g at_ no ∧ w.heap.size ≤ g ∧ Below w.heap.size w w'
theorem byte_at (s : ByteArray) (i : Nat) (h : i < s.size) : s.data.toList.getD i 0 = s[i] := by
  rw [List.getD_eq_getElem?_getD, List.getElem?_eq_getElem (by simpa using h)]; rfl
theorem byte_ne {x c : UInt8} {n : Int} (hc : (c.toNat : Int) = n) (h : x ≠ c) : ((x.toNat : Int) != n) = true := by
  subst hc
  refine bne_iff_ne.2 fun e => h (UInt8.toNat_inj.1 (by omega))
theorem byte_eq' {x c : UInt8} {n : Int} (hc : (c.toNat : Int) = n) (h : x = c) : ((x.toNat : Int) != n) = false := by
  subst h; rw [hc]; simp
theorem read_is (s : ByteArray) (a n : Nat) (w : World) (hs : s.size ≤ maxLen) (h : a + n ≤ s.size) (hn : n ≤ 8) (a' n' N : Int) (ha' : a' = (a : Int)) (hn' : n' = (n : Int)) (hN : N = numI (sub s.data.toList a n)) :
    Calls Tryd.prog 56 #[.string s, .int .i64 a', .int .i64 n'] w fun e w' => e = .returned (.int .u64 N) ∧ Below w.heap.size w w' := by
  subst ha' hn' hN; exact read_any s a n w hs h hn
theorem fault_new (w : World) (o : Obj) (at_ : Nat) (no : Int) : FaultAt ((w.alloc o).alloc (.cells #[.int .i64 (at_ : Int), .iface 42 (.int .i64 no)] 100)) (w.heap.size + 1) at_ no := by
  unfold FaultAt
  have h := heap_alloc_new (w.alloc o) (.cells #[.int .i64 (at_ : Int), .iface 42 (.int .i64 no)] 100)
  simpa using h
def zeros : Array Value := #[.int .i64 0, .int .i64 0, .int .u64 0, .int .u64 0, .string ⟨#[]⟩]

set_option maxRecDepth 100000 in
set_option maxHeartbeats 1000000 in
theorem get_short (s : ByteArray) (w : World) (hs : s.size < 27) : Calls Tryd.prog 42 #[.string s] w (Bad w s.size 61) := by
  have hd : decide ((s.size : Int) - 23 - 4 < 0) = true := by simp; omega
  go_enter Tryd.func42, Tryd.ntmps42
  go_wp2_with fail
  exact bodyPost_ret (v := .tuple #[.agg #[.int .i64 0, .int .i64 0, .int .u64 0, .int .u64 0, .string ⟨#[]⟩], .iface 98 (.pointer (some ⟨w.heap.size + 1, 0, none⟩))]) (by simp [results, Tryd.results42, go_sem]) rfl
    ⟨_, rfl, fault_new _ _ _ _, by omega, ((Below.refl _ _).alloc (Nat.le_refl _) _).alloc (by simp) _⟩
/-- how get ends: the frame lies in the result's own block -/
theorem get_end (t : Array Value) (F : World) (X : Nat) {k ep sq ak b E : Value} {post : Ending → World → Prop} (h2 : t[2]? = some (.pointer (some ⟨X, 0, none⟩))) (h3 : t[3]? = some E) (hX : F.heap[X]? = some (.cells #[k, ep, sq, ak, b] 57 (0, 0)))
    (hp : post (.returned (.tuple #[.agg #[k, ep, sq, ak, b], E])) F) : bodyPost Tryd.prog Tryd.f42 post .ret { tmps := t, defers := [] } F := by
  have x0 := cell_of_block hX 0
  have x1 := cell_of_block hX 1
  have x2 := cell_of_block hX 2
  have x3 := cell_of_block hX 3
  have x4 := cell_of_block hX 4
  simp at x0 x1 x2 x3 x4
  exact bodyPost_ret (v := .tuple #[.agg #[k, ep, sq, ak, b], E]) (by simp [results, Tryd.results42, go_sem, h2, h3, x0, x1, x2, x3, x4]) rfl hp
section
variable {v w : World} {X : Nat} {cs : Array Value} {t : TypeId}
/-- five cells stored, and a block more -/
theorem stored5 {k0 k1 k2 k3 k4 : Value} (hX : v.heap[X]? = some (.cells #[k0, k1, k2, k3, k4] t (0, 0))) (a b c d e : Value) (o : Obj) :
    ((((((v.setCell ⟨X, 0, none⟩ a).setCell ⟨X, 1, none⟩ b).setCell ⟨X, 2, none⟩ c).setCell ⟨X, 3, none⟩ d).setCell ⟨X, 4, none⟩ e).alloc o).heap[X]? = some (.cells #[a, b, c, d, e] t (0, 0)) := by
  have hlt := lt_of_block hX
  rw [Below.heap_alloc _ _ _ (by simpa [World.setCell] using hlt)]
  exact set_block (set_block (set_block (set_block (set_block hX 0 a) 1 b) 2 c) 3 d) 4 e
theorem stored5' {k0 k1 k2 k3 k4 : Value} (hX : v.heap[X]? = some (.cells #[k0, k1, k2, k3, k4] t (0, 0))) (a b c d e : Value) :
    (((((v.setCell ⟨X, 0, none⟩ a).setCell ⟨X, 1, none⟩ b).setCell ⟨X, 2, none⟩ c).setCell ⟨X, 3, none⟩ d).setCell ⟨X, 4, none⟩ e).heap[X]? = some (.cells #[a, b, c, d, e] t (0, 0)) :=
  set_block (set_block (set_block (set_block (set_block hX 0 a) 1 b) 2 c) 3 d) 4 e
theorem stored_below' {B : Nat} (hB : B ≤ X) (a b c d e : Value) :
    Below B v (((((v.setCell ⟨X, 0, none⟩ a).setCell ⟨X, 1, none⟩ b).setCell ⟨X, 2, none⟩ c).setCell ⟨X, 3, none⟩ d).setCell ⟨X, 4, none⟩ e) :=
  (((((Below.refl B v).setCell (p := ⟨X, 0, none⟩) hB a).setCell (p := ⟨X, 1, none⟩) hB b).setCell (p := ⟨X, 2, none⟩) hB c).setCell (p := ⟨X, 3, none⟩) hB d).setCell (p := ⟨X, 4, none⟩) hB e
theorem stored_below {B : Nat} (hB : B ≤ X) (hs : B ≤ v.heap.size) (a b c d e : Value) (o : Obj) :
    Below B v ((((((v.setCell ⟨X, 0, none⟩ a).setCell ⟨X, 1, none⟩ b).setCell ⟨X, 2, none⟩ c).setCell ⟨X, 3, none⟩ d).setCell ⟨X, 4, none⟩ e).alloc o) :=
  (stored_below' hB a b c d e).alloc (by simpa [World.setCell] using hs) o
theorem fault_stored (v : World) (X : Nat) (a b c d e : Value) (at_ : Nat) (no : Int) :
    FaultAt ((((((v.setCell ⟨X, 0, none⟩ a).setCell ⟨X, 1, none⟩ b).setCell ⟨X, 2, none⟩ c).setCell ⟨X, 3, none⟩ d).setCell ⟨X, 4, none⟩ e).alloc (.cells #[.int .i64 (at_ : Int), .iface 42 (.int .i64 no)] 100)) v.heap.size at_ no := by
  unfold FaultAt
  have h := heap_alloc_new (((((v.setCell ⟨X, 0, none⟩ a).setCell ⟨X, 1, none⟩ b).setCell ⟨X, 2, none⟩ c).setCell ⟨X, 3, none⟩ d).setCell ⟨X, 4, none⟩ e) (.cells #[.int .i64 (at_ : Int), .iface 42 (.int .i64 no)] 100)
  have e : (((((v.setCell ⟨X, 0, none⟩ a).setCell ⟨X, 1, none⟩ b).setCell ⟨X, 2, none⟩ c).setCell ⟨X, 3, none⟩ d).setCell ⟨X, 4, none⟩ e).heap.size = v.heap.size := by simp [World.setCell]
  rw [e] at h
  exact h
end
section
variable {s : ByteArray} {w : World} {m a : Nat}
set_option maxRecDepth 100000 in
set_option maxHeartbeats 1000000 in
theorem get_magic (hm : s.size = m + 27) (ha : a = m + 4) (hs : s.size ≤ maxLen) (h0 : s.data.toList.getD 0 0 ≠ 78) : Calls Tryd.prog 42 #[.string s] w (Bad w 0 62) := by
  unfold maxLen at hs
  have he1 : (s.size : Int) - 23 = (a : Int) := by omega
  have he2 : (a : Int) - 4 = (m : Int) := by omega
  have b1 : 27 ≤ s.size := by omega
  have p0 : 0 < s.size := by omega
  have p1 : 1 < s.size := by omega
  have dm : decide ((m : Int) < 0) = false := by simp
  rw [byte_at s 0 p0] at h0
  have d0 := byte_ne (n := 78) rfl h0
  clear hm ha h0
  go_enter Tryd.func42, Tryd.ntmps42
  go_wp2_with fail
  exact bodyPost_ret (v := .tuple #[.agg #[.int .i64 0, .int .i64 0, .int .u64 0, .int .u64 0, .string ⟨#[]⟩], .iface 98 (.pointer (some ⟨w.heap.size + 1, 0, none⟩))]) (by simp [results, Tryd.results42, go_sem]) rfl
    ⟨_, rfl, fault_new _ _ _ _, by omega, ((Below.refl _ _).alloc (Nat.le_refl _) _).alloc (by simp) _⟩
set_option maxRecDepth 100000 in
set_option maxHeartbeats 1000000 in
theorem get_version (hm : s.size = m + 27) (ha : a = m + 4) (hs : s.size ≤ maxLen) (h0 : s.data.toList.getD 0 0 = 78) (h1 : s.data.toList.getD 1 0 ≠ 1) : Calls Tryd.prog 42 #[.string s] w (Bad w 1 63) := by
  unfold maxLen at hs
  have he1 : (s.size : Int) - 23 = (a : Int) := by omega
  have he2 : (a : Int) - 4 = (m : Int) := by omega
  have b1 : 27 ≤ s.size := by omega
  have p0 : 0 < s.size := by omega
  have p1 : 1 < s.size := by omega
  have dm : decide ((m : Int) < 0) = false := by simp
  rw [byte_at s 0 p0] at h0
  rw [byte_at s 1 p1] at h1
  have d0 := byte_eq' (n := 78) rfl h0
  have d1 := byte_ne (n := 1) rfl h1
  clear hm ha h0 h1
  go_enter Tryd.func42, Tryd.ntmps42
  go_wp2_with fail
  exact bodyPost_ret (v := .tuple #[.agg #[.int .i64 0, .int .i64 0, .int .u64 0, .int .u64 0, .string ⟨#[]⟩], .iface 98 (.pointer (some ⟨w.heap.size + 1, 0, none⟩))]) (by simp [results, Tryd.results42, go_sem]) rfl
    ⟨_, rfl, fault_new _ _ _ _, by omega, ((Below.refl _ _).alloc (Nat.le_refl _) _).alloc (by simp) _⟩
/-- the bytes' number and the length that it should be -/
theorem len_ne {x m : Nat} (h : x ≠ m) : (((x : Nat) : Int) != (m : Int)) = true := bne_iff_ne.2 (by omega)
set_option maxRecDepth 100000 in
set_option maxHeartbeats 1000000 in
theorem get_length (hm : s.size = m + 27) (ha : a = m + 4) (hs : s.size ≤ maxLen) (h0 : s.data.toList.getD 0 0 = 78) (h1 : s.data.toList.getD 1 0 = 1) (h2 : num (sub s.data.toList 21 2) ≠ m) : Calls Tryd.prog 42 #[.string s] w (Bad w 21 64) := by
  have hs' := hs
  unfold maxLen at hs
  have he1 : (s.size : Int) - 23 = (a : Int) := by omega
  have he2 : (a : Int) - 4 = (m : Int) := by omega
  have b1 : 27 ≤ s.size := by omega
  have p0 : 0 < s.size := by omega
  have p1 : 1 < s.size := by omega
  have dm : decide ((m : Int) < 0) = false := by simp
  have hwm : IntKind.u64.wrap (m : Int) = (m : Int) := by rw [IntKind.wrap_u64]; omega
  rw [byte_at s 0 p0] at h0
  rw [byte_at s 1 p1] at h1
  have d0 := byte_eq' (n := 78) rfl h0
  have d1 := byte_eq' (n := 1) rfl h1
  obtain ⟨N, hN⟩ : ∃ N, N = numI (sub s.data.toList 21 2) := ⟨_, rfl⟩
  have d2 : (N != (m : Int)) = true := by rw [hN]; exact len_ne h2
  have HN := Lib.hid hN
  have hal : Below w.heap.size w (w.alloc (.cells zeros 57)) := (Below.refl _ _).alloc (Nat.le_refl _) _
  have HAL := Lib.hid hal
  clear hm ha h0 h1 hN h2 hal
  go_enter Tryd.func42, Tryd.ntmps42
  go_wp2_with fail
  with_reducible refine (read_is s 21 2 _ hs' (by omega) (by omega) 21 2 N rfl rfl HN.out).mono ?_
  rintro e v ⟨rfl, hb⟩
  have hX : v.heap[w.heap.size]? = some (.cells zeros 57 (0, 0)) := (hb.block w.heap.size (by simp)).trans (heap_alloc_new w _)
  have x0 := cell_of_block hX 0
  have x1 := cell_of_block hX 1
  have x2 := cell_of_block hX 2
  have x3 := cell_of_block hX 3
  have x4 := cell_of_block hX 4
  simp [zeros] at x0 x1 x2 x3 x4
  have y0 := frozen_of_block hX 0
  have y1 := frozen_of_block hX 1
  have y2 := frozen_of_block hX 2
  have y3 := frozen_of_block hX 3
  have y4 := frozen_of_block hX 4
  have hlt := lt_of_block hX
  have hsz : w.heap.size ≤ v.heap.size := Nat.le_of_lt hlt
  go_wp2_with fail
  refine get_end _ _ w.heap.size rfl rfl (stored5 hX _ _ _ _ _ _) ⟨v.heap.size, rfl, ?_, hsz, (HAL.out.trans (hb.mono (by simp))).trans (stored_below (Nat.le_refl _) hsz _ _ _ _ _ _)⟩
  exact fault_stored _ _ _ _ _ _ _ _ _
end
end Go.Proofs.YtihhflajkohibaaDoor.Frame
