/- Layer 10: what the small methods of a pipe do to the pipe in memory. Conditions: the pipe lies (PipeIs). -/
import Derived.Test.YtihhflajkohibaaGreatDoorPipeMem
import Derived.Test.YtihhflajkohibaaGreatDoorRows
import Derived.Deep.DeepCutAuto
import Derived.Deep.QuietTactic
import Derived.Outline
namespace Go.Proofs.YtihhflajkohibaaGreatDoor.Pipe
set_option linter.unusedSimpArgs false
set_option linter.unusedVariables false
set_option maxRecDepth 100000
open Go.RowKit
open Go.Proofs.YtihhflajkohibaaGreatDoor
open Go.Proofs.YtihhflajkohibaaGreatDoor.Link (LE Fr EndIs)
open Go.Proofs.YtihhflajkohibaaGreatDoor.Net (NS NetIs)
def isSide (n : Int) : Bool := decide (0 ≤ n) && decide (n < 2)
theorem isSide_iff {n : Int} : isSide n = true ↔ n = 0 ∨ n = 1 := by simp [isSide]; omega
theorem isSide_no (me : Bool) : isSide (no me) = true := by cases me <;> rfl
theorem there_any (p : Value) (n : Int) (w : World) : Calls Tryz.prog 34 #[p, .int .i64 n] w fun e w' => e = .returned (.bool (isSide n)) ∧ w = w' := by
  unfold isSide
  cases h0 : decide (0 ≤ n)
  · go_enter Tryz.func34, Tryz.ntmps34
    go_wp2_with fail
    go_ret
    exact ⟨rfl, rfl⟩
  · cases h1 : decide (n < 2)
    · go_enter Tryz.func34, Tryz.ntmps34
      go_wp2_with fail
      go_ret
      exact ⟨rfl, rfl⟩
    · go_enter Tryz.func34, Tryz.ntmps34
      go_wp2_with fail
      go_ret
      exact ⟨rfl, rfl⟩
theorem there_yes (p : Value) (m : Nat) (h : m < 2) (w : World) : Calls Tryz.prog 34 #[p, .int .i64 (m : Int)] w fun e w' => e = .returned (.bool true) ∧ w = w' := by
  have := there_any p (m : Int) w
  rwa [isSide_iff.2 (by omega)] at this
theorem there_no (p : Value) (n : Int) (h : isSide n = false) (w : World) : Calls Tryz.prog 34 #[p, .int .i64 n] w fun e w' => e = .returned (.bool false) ∧ w = w' := by
  have := there_any p n w
  rwa [h] at this
theorem _root_.Go.Proofs.YtihhflajkohibaaGreatDoor.Net.flip_any {w : World} {p : Nat} {F : List Nat} {s : NS} (h : NetIs w p F s) (a b k bit : Int) (hbig : (s.look a b k).size ≤ 1000000) :
    Calls Tryz.prog 55 #[.pointer (some ⟨p, 0, none⟩), .int .i64 a, .int .i64 b, .int .i64 k, .int .i64 bit] w (Net.Act1 w p F (s.flip a b k bit) (.bool (s.flipOk a b k))) := by
  cases hf : s.flipOk a b k
  · have := Net.flip_no h a b k bit hf
    rwa [show s.flip a b k bit = s from by unfold NS.flip; rw [hf]; rfl]
  · exact Net.flip_yes h a b k bit hf hbig
section
variable {B : Nat} {w : World} {p : Nat} {F : List Nat} {s : PS}
set_option maxHeartbeats 1000000 in
theorem send_no (p : Value) (n : Int) (hn : isSide n = false) (b : ByteArray) (w : World) : Calls Tryz.prog 8 #[p, .int .i64 n, .string b] w fun e w' => e = .returned (.int .i64 100) ∧ w = w' := by
  go_enter Tryz.func8, Tryz.ntmps8
  go_wp2_with fail
  refine (there_no _ n hn _).mono ?_
  rintro e w1 ⟨rfl, rfl⟩
  go_wp2_with fail
  go_ret
  exact ⟨rfl, rfl⟩
set_option maxHeartbeats 1000000 in
theorem send_yes (h : PipeIs B w p F s) (hB : B ≤ w.heap.size) (me : Bool) (b : ByteArray) : Calls Tryz.prog 8 #[.pointer (some ⟨p, 0, none⟩), .int .i64 (no me), .string b] w (ActP B w p F (s.send me b) (.int .i64 ((s.e me).sendE b))) := by
  obtain ⟨M, rfl, hl⟩ := h.lay
  obtain ⟨m, r, hm, hr, h1, h2, hm2, hr2, hmr⟩ := no_nat me
  have y0 := (cell_of_block hl.box m).trans (show (M.cells s)[m]? = some (.pointer (some ⟨M.e me, 0, none⟩)) from by rw [← hm]; exact cells_e M s me)
  have H := Lib.hid hl
  have m0 : (0 : Int) ≤ (m : Int) := by omega
  have m1 : (m : Int) < 2 := by omega
  obtain ⟨E, hE⟩ : ∃ E, (s.e me).sendE b = E := ⟨_, rfl⟩
  rw [h1, hE]
  have HE := Lib.hid hE
  clear h hl hm hr h1 h2 hE
  go_enter Tryz.func8, Tryz.ntmps8
  go_wp2_with fail
  refine (there_yes _ m hm2 _).mono ?_
  rintro e w1 ⟨rfl, rfl⟩
  go_wp2_with fail
  refine (Link.send_any (H.out.e me) b).mono ?_
  rw [HE.out]
  rintro e w2 ⟨rfl, F', he, ht⟩
  have HS := Lib.hid (H.out.setE hB he ht)
  clear he ht
  go_wp2_with fail
  go_ret
  exact HS.out.is _
set_option maxHeartbeats 1000000 in
theorem tick_no (p : Value) (n : Int) (hn : isSide n = false) (w : World) : Calls Tryz.prog 12 #[p, .int .i64 n] w fun e w' => e = .returned (.tuple #[]) ∧ w = w' := by
  go_enter Tryz.func12, Tryz.ntmps12
  go_wp2_with fail
  refine (there_no _ n hn _).mono ?_
  rintro e w1 ⟨rfl, rfl⟩
  go_wp2_with fail
  go_end0
  exact ⟨rfl, rfl⟩
set_option maxHeartbeats 1000000 in
theorem tick_yes (h : PipeIs B w p F s) (hB : B ≤ w.heap.size) (me : Bool) : Calls Tryz.prog 12 #[.pointer (some ⟨p, 0, none⟩), .int .i64 (no me)] w (ActP B w p F (s.tick me) (.tuple #[])) := by
  obtain ⟨M, rfl, hl⟩ := h.lay
  obtain ⟨m, r, hm, hr, h1, h2, hm2, hr2, hmr⟩ := no_nat me
  have y0 := (cell_of_block hl.box m).trans (show (M.cells s)[m]? = some (.pointer (some ⟨M.e me, 0, none⟩)) from by rw [← hm]; exact cells_e M s me)
  have H := Lib.hid hl
  have m0 : (0 : Int) ≤ (m : Int) := by omega
  have m1 : (m : Int) < 2 := by omega
  rw [h1]
  clear h hl hm hr h1 h2
  go_enter Tryz.func12, Tryz.ntmps12
  go_wp2_with fail
  refine (there_yes _ m hm2 _).mono ?_
  rintro e w1 ⟨rfl, rfl⟩
  go_wp2_with fail
  refine (Link.tick_any (H.out.e me)).mono ?_
  rintro e w2 ⟨rfl, he, ht⟩
  have HS := Lib.hid (H.out.setE hB he ht)
  clear he ht
  go_wp2_with fail
  go_end0
  exact HS.out.is _
set_option maxHeartbeats 1000000 in
theorem waiting_no (p : Value) (n : Int) (hn : isSide n = false) (w : World) : Calls Tryz.prog 25 #[p, .int .i64 n] w fun e w' => e = .returned (.int .i64 0) ∧ w = w' := by
  go_enter Tryz.func25, Tryz.ntmps25
  go_wp2_with fail
  refine (there_no _ n hn _).mono ?_
  rintro e w1 ⟨rfl, rfl⟩
  go_wp2_with fail
  go_ret
  exact ⟨rfl, rfl⟩
set_option maxHeartbeats 1000000 in
theorem waiting_yes (h : PipeIs B w p F s) (me : Bool) : Calls Tryz.prog 25 #[.pointer (some ⟨p, 0, none⟩), .int .i64 (no me)] w fun e w' => e = .returned (.int .i64 ((s.e me).bodies.length : Int)) ∧ w = w' := by
  obtain ⟨M, rfl, hl⟩ := h.lay
  obtain ⟨m, r, hm, hr, h1, h2, hm2, hr2, hmr⟩ := no_nat me
  have y0 := (cell_of_block hl.box m).trans (show (M.cells s)[m]? = some (.pointer (some ⟨M.e me, 0, none⟩)) from by rw [← hm]; exact cells_e M s me)
  have H := Lib.hid hl
  have m0 : (0 : Int) ≤ (m : Int) := by omega
  have m1 : (m : Int) < 2 := by omega
  obtain ⟨E, hE⟩ : ∃ E : Nat, (s.e me).bodies.length = E := ⟨_, rfl⟩
  rw [h1, hE]
  have HE := Lib.hid hE
  clear h hl hm hr h1 h2 hE
  go_enter Tryz.func25, Tryz.ntmps25
  go_wp2_with fail
  refine (there_yes _ m hm2 _).mono ?_
  rintro e w1 ⟨rfl, rfl⟩
  go_wp2_with fail
  refine (Link.waiting_any (H.out.e me)).mono ?_
  rw [HE.out]
  rintro e w2 ⟨rfl, rfl⟩
  go_wp2_with fail
  go_ret
  exact ⟨rfl, rfl⟩
set_option maxHeartbeats 1000000 in
theorem lose_no (p : Value) (n : Int) (hn : isSide n = false) (k : Int) (w : World) : Calls Tryz.prog 16 #[p, .int .i64 n, .int .i64 k] w fun e w' => e = .returned (.bool false) ∧ w = w' := by
  go_enter Tryz.func16, Tryz.ntmps16
  go_wp2_with fail
  refine (there_no _ n hn _).mono ?_
  rintro e w1 ⟨rfl, rfl⟩
  go_wp2_with fail
  go_ret
  exact ⟨rfl, rfl⟩
set_option maxHeartbeats 1000000 in
theorem lose_yes (h : PipeIs B w p F s) (hB : B ≤ w.heap.size) (me : Bool) (k : Int) : Calls Tryz.prog 16 #[.pointer (some ⟨p, 0, none⟩), .int .i64 (no me), .int .i64 k] w (ActP B w p F (s.lose me k) (.bool (s.has me k))) := by
  obtain ⟨M, rfl, hl⟩ := h.lay
  obtain ⟨m, r, hm, hr, h1, h2, hm2, hr2, hmr⟩ := no_nat me
  have y4 := (cell_of_block hl.box 4).trans (show (M.cells s)[4]? = some (.pointer (some ⟨M.q, 0, none⟩)) from rfl)
  have H := Lib.hid hl
  have m0 : (0 : Int) ≤ (m : Int) := by omega
  have m1 : (m : Int) < 2 := by omega
  have HM := Lib.hid (And.intro h1 h2)
  rw [h1]
  clear h hl hm hr h1 h2
  go_enter Tryz.func16, Tryz.ntmps16
  go_wp2_with fail
  refine (there_yes _ m hm2 _).mono ?_
  rintro e w1 ⟨rfl, rfl⟩
  have hw1 : IntKind.i64.wrap (1 - (m : Int)) = (r : Int) := by rw [hmr]; exact IntWalk.i64_in _ (by omega)
  go_wp2_with fail
  refine (Net.deliver_any H.out.n (r : Int) (m : Int) k).mono ?_
  rintro e w2 ⟨rfl, G', he, ht⟩
  have HS := Lib.hid (H.out.setN hB he ht)
  clear he ht
  go_wp2_with fail
  go_ret
  have hs := HS.out
  rw [← HM.out.1, ← HM.out.2] at hs ⊢
  exact hs.is _
set_option maxHeartbeats 1000000 in
theorem look_no (p : Value) (n : Int) (hn : isSide n = false) (k : Int) (w : World) : Calls Tryz.prog 28 #[p, .int .i64 n, .int .i64 k] w fun e w' => e = .returned (.tuple #[.string ⟨#[]⟩, .bool false]) ∧ w = w' := by
  go_enter Tryz.func28, Tryz.ntmps28
  go_wp2_with fail
  refine (there_no _ n hn _).mono ?_
  rintro e w1 ⟨rfl, rfl⟩
  go_wp2_with fail
  go_ret2
  exact ⟨rfl, rfl⟩
set_option maxHeartbeats 1000000 in
theorem look_yes (h : PipeIs B w p F s) (hB : B ≤ w.heap.size) (me : Bool) (k : Int) : Calls Tryz.prog 28 #[.pointer (some ⟨p, 0, none⟩), .int .i64 (no me), .int .i64 k] w (ActP B w p F (s) (.tuple #[.string (s.look me k), .bool (s.has me k)])) := by
  obtain ⟨M, rfl, hl⟩ := h.lay
  obtain ⟨m, r, hm, hr, h1, h2, hm2, hr2, hmr⟩ := no_nat me
  have y4 := (cell_of_block hl.box 4).trans (show (M.cells s)[4]? = some (.pointer (some ⟨M.q, 0, none⟩)) from rfl)
  have H := Lib.hid hl
  have m0 : (0 : Int) ≤ (m : Int) := by omega
  have m1 : (m : Int) < 2 := by omega
  have HM := Lib.hid (And.intro h1 h2)
  rw [h1]
  clear h hl hm hr h1 h2
  go_enter Tryz.func28, Tryz.ntmps28
  go_wp2_with fail
  refine (there_yes _ m hm2 _).mono ?_
  rintro e w1 ⟨rfl, rfl⟩
  have hw1 : IntKind.i64.wrap (1 - (m : Int)) = (r : Int) := by rw [hmr]; exact IntWalk.i64_in _ (by omega)
  go_wp2_with fail
  refine (Net.look_any H.out.n (r : Int) (m : Int) k).mono ?_
  rintro e w2 ⟨rfl, G', he, ht⟩
  have HS := Lib.hid (H.out.setN hB he ht)
  clear he ht
  go_wp2_with fail
  go_ret2
  show ActP _ _ _ _ _ _ (.returned (.tuple #[.string (s.n.look (r : Int) (m : Int) k), .bool (s.n.isAt (r : Int) (m : Int) k)])) _
  have hs := HS.out.is (.tuple #[.string (s.n.look (r : Int) (m : Int) k), .bool (s.n.isAt (r : Int) (m : Int) k)])
  rw [← HM.out.1, ← HM.out.2] at hs ⊢
  exact hs
set_option maxHeartbeats 1000000 in
theorem double_no (p : Value) (n : Int) (hn : isSide n = false) (k : Int) (w : World) : Calls Tryz.prog 18 #[p, .int .i64 n, .int .i64 k] w fun e w' => e = .returned (.bool false) ∧ w = w' := by
  go_enter Tryz.func18, Tryz.ntmps18
  go_wp2_with fail
  refine (there_no _ n hn _).mono ?_
  rintro e w1 ⟨rfl, rfl⟩
  go_wp2_with fail
  go_ret
  exact ⟨rfl, rfl⟩
set_option maxHeartbeats 1000000 in
theorem double_yes (h : PipeIs B w p F s) (hB : B ≤ w.heap.size) (me : Bool) (k : Int) : Calls Tryz.prog 18 #[.pointer (some ⟨p, 0, none⟩), .int .i64 (no me), .int .i64 k] w (ActP B w p F (s.double me k) (.bool (s.doubleOk me k))) := by
  obtain ⟨M, rfl, hl⟩ := h.lay
  obtain ⟨m, r, hm, hr, h1, h2, hm2, hr2, hmr⟩ := no_nat me
  have y4 := (cell_of_block hl.box 4).trans (show (M.cells s)[4]? = some (.pointer (some ⟨M.q, 0, none⟩)) from rfl)
  have H := Lib.hid hl
  have m0 : (0 : Int) ≤ (m : Int) := by omega
  have m1 : (m : Int) < 2 := by omega
  have HM := Lib.hid (And.intro h1 h2)
  rw [h1]
  clear h hl hm hr h1 h2
  go_enter Tryz.func18, Tryz.ntmps18
  go_wp2_with fail
  refine (there_yes _ m hm2 _).mono ?_
  rintro e w1 ⟨rfl, rfl⟩
  have hw1 : IntKind.i64.wrap (1 - (m : Int)) = (r : Int) := by rw [hmr]; exact IntWalk.i64_in _ (by omega)
  go_wp2_with fail
  refine (Net.double_any H.out.n (r : Int) (m : Int) k).mono ?_
  rintro e w2 ⟨rfl, G', he, ht⟩
  have HS := Lib.hid (H.out.setN hB he ht)
  clear he ht
  go_wp2_with fail
  go_ret
  have hs := HS.out
  rw [← HM.out.1, ← HM.out.2] at hs ⊢
  exact hs.is _
set_option maxHeartbeats 1000000 in
theorem flip_no (p : Value) (n : Int) (hn : isSide n = false) (k : Int) (bit : Int) (w : World) : Calls Tryz.prog 20 #[p, .int .i64 n, .int .i64 k, .int .i64 bit] w fun e w' => e = .returned (.bool false) ∧ w = w' := by
  go_enter Tryz.func20, Tryz.ntmps20
  go_wp2_with fail
  refine (there_no _ n hn _).mono ?_
  rintro e w1 ⟨rfl, rfl⟩
  go_wp2_with fail
  go_ret
  exact ⟨rfl, rfl⟩
set_option maxHeartbeats 1000000 in
theorem flip_yes (h : PipeIs B w p F s) (hB : B ≤ w.heap.size) (me : Bool) (k : Int) (bit : Int) (hsz : (s.look me k).size ≤ 1000000) : Calls Tryz.prog 20 #[.pointer (some ⟨p, 0, none⟩), .int .i64 (no me), .int .i64 k, .int .i64 bit] w (ActP B w p F (s.flip me k bit) (.bool (s.flipOk me k))) := by
  obtain ⟨M, rfl, hl⟩ := h.lay
  obtain ⟨m, r, hm, hr, h1, h2, hm2, hr2, hmr⟩ := no_nat me
  have y4 := (cell_of_block hl.box 4).trans (show (M.cells s)[4]? = some (.pointer (some ⟨M.q, 0, none⟩)) from rfl)
  have H := Lib.hid hl
  have HSZ := Lib.hid hsz
  have m0 : (0 : Int) ≤ (m : Int) := by omega
  have m1 : (m : Int) < 2 := by omega
  have HM := Lib.hid (And.intro h1 h2)
  rw [h1]
  clear hsz h hl hm hr h1 h2
  go_enter Tryz.func20, Tryz.ntmps20
  go_wp2_with fail
  refine (there_yes _ m hm2 _).mono ?_
  rintro e w1 ⟨rfl, rfl⟩
  have hw1 : IntKind.i64.wrap (1 - (m : Int)) = (r : Int) := by rw [hmr]; exact IntWalk.i64_in _ (by omega)
  go_wp2_with fail
  refine (Net.flip_any H.out.n (r : Int) (m : Int) k bit (by rw [← HM.out.1, ← HM.out.2]; exact HSZ.out)).mono ?_
  rintro e w2 ⟨rfl, G', he, ht⟩
  have HS := Lib.hid (H.out.setN hB he ht)
  clear he ht
  go_wp2_with fail
  go_ret
  have hs := HS.out
  rw [← HM.out.1, ← HM.out.2] at hs ⊢
  exact hs.is _
set_option maxHeartbeats 1000000 in
theorem got_no (p : Value) (n : Int) (hn : isSide n = false) (w : World) : Calls Tryz.prog 23 #[p, .int .i64 n] w fun e w' => e = .returned (.slice none 0 0) ∧ w = w' := by
  go_enter Tryz.func23, Tryz.ntmps23
  go_wp2_with fail
  refine (there_no _ n hn _).mono ?_
  rintro e w1 ⟨rfl, rfl⟩
  go_wp2_with fail
  go_ret
  exact ⟨rfl, rfl⟩
/-- a slice is copied -/
theorem clone_any {G : List Nat} {A : Option Addr} {c : Nat} {l : List ByteArray} (h : Vec w G 1 A l.length c (l.map .string)) (hl : l.length ≤ 1000000) : Calls Tryz.prog 57 #[.slice A l.length c] w fun e w' => ∃ A' c' G', e = .returned (.slice A' l.length c') ∧ Vec w' G' 1 A' l.length c' (l.map .string) ∧ (∀ k, k ∈ G' → w.heap.size ≤ k) ∧ Below w.heap.size w w' := by
  obtain ⟨i0, hi0, hz0, hz1, hz2⟩ := info_parts Link.str_info
  have hle := h.le
  cases A with
  | none =>
    rcases h.place with ⟨_, rfl, rfl⟩ | ⟨g, off, e, _⟩
    · obtain rfl : l = [] := List.eq_nil_of_length_eq_zero (by omega)
      have he : ∀ w : World, (binOp .eql 28 (.slice none 0 0) (.slice none 0 0)).run Tryz.prog w = .ok (.bool true) w := fun _ => rfl
      rw [List.length_nil]
      go_enter Tryz.func57, Tryz.ntmps57
      go_wp2_with fail
      go_ret
      exact ⟨none, 0, rfl, [], Vec.nil _ _, (fun k hk => by simp at hk), Below.refl _ _⟩
    · cases e
  | some a =>
    obtain ⟨n, hn⟩ : ∃ n, l.length = n := ⟨_, rfl⟩
    have hva : Below w.heap.size w (w.alloc (.cells #[] 9)) := (Below.refl _ _).alloc (Nat.le_refl _) _
    have HVA := Lib.hid hva
    have HV := Lib.hid (h.after hva)
    have HN := Lib.hid hn
    have he : ∀ w : World, (binOp .eql 28 (.slice (some a) n c) (.slice none 0 0)).run Tryz.prog w = .ok (.bool false) w := fun _ => rfl
    have HL := Lib.hid hl
    rw [hn]
    clear h hva hn hl hle
    go_enter Tryz.func57, Tryz.ntmps57
    have hv0 := Vec.of_new (w := w.alloc (.cells #[] 9)) (e := 9) (g := w.heap.size) #[] 1 0 0 (Nat.le_refl _) (Nat.zero_le _) rfl (heap_alloc_new w _)
    have hsrc : Src Tryz.prog 1 28 (.slice (some a) n c) n (l.map .string) (w.alloc (.cells #[] 9)) := by
      have := (show Vec (w.alloc (.cells #[] 9)) G 1 (some a) n c (l.map .string) from by rw [← HN.out]; exact HV.out).src (P := Tryz.prog) Tryz.underlying28 (fun u hu => by obtain ⟨b, _, rfl⟩ := List.mem_map.1 hu; rfl)
      exact this
    have HV0 := Lib.hid hv0
    have HSR := Lib.hid hsrc
    have HLN := Lib.hid (show n ≤ 1000000 from by rw [← HN.out]; exact HL.out)
    clear hv0 hsrc
    go_wp2_with (at_builtin; (refine wpList_append_vec _ (by rfl) _ _ _ _ (by rfl) 9 i0 _ 1 16 Tryz.underlying28 hi0 hz0 hz1 hz2 rfl [w.heap.size] (some ⟨w.heap.size, 0, none⟩) 0 0 [] (.slice (some a) n c) n (l.map .string) (by rfl) (by rfl) (by exact HV0.out) (by exact HSR.out) (by have := HLN.out; unfold maxLen; omega) (by have := HLN.out; omega) ?_; intro v6 w6 happ; rw [Nat.zero_add, List.nil_append] at happ; have HAP := Lib.hid happ; clear happ))
    go_ret
    obtain ⟨F6, A6, c6, rfl, hv6, ht6⟩ := HAP.out.all
    exact ⟨A6, c6, rfl, F6, hv6, fun k hk => by
      rcases ht6.new k hk with h1 | h1
      · simp at h1; omega
      · simp at h1; omega, HVA.out.trans (ht6.below (B := w.heap.size) (by simp) (fun k hk => by simp at hk; omega)).1⟩
set_option maxHeartbeats 1000000 in
theorem got_yes (h : PipeIs B w p F s) (me : Bool) (hl : (s.g me).length ≤ 1000000) : Calls Tryz.prog 23 #[.pointer (some ⟨p, 0, none⟩), .int .i64 (no me)] w fun e w' => ∃ A' c' G', e = .returned (.slice A' (s.g me).length c') ∧ Vec w' G' 1 A' (s.g me).length c' ((s.g me).map .string) ∧ (∀ k, k ∈ G' → w.heap.size ≤ k) ∧ Below w.heap.size w w' := by
  obtain ⟨M, rfl, hl'⟩ := h.lay
  obtain ⟨m, r, hm, hr, h1, h2, hm2, hr2, hmr⟩ := no_nat me
  have y2 := (cell_of_block hl'.box (2 + m)).trans (show (M.cells s)[2 + m]? = some (sl (M.g me) (s.g me).length) from by rw [← hm]; exact cells_g M s me)
  have H := Lib.hid hl'
  have HL := Lib.hid hl
  have m0 : (0 : Int) ≤ (m : Int) := by omega
  have m1 : (m : Int) < 2 := by omega
  unfold sl at y2
  rw [h1]
  clear h hl' hl hm hr h1 h2
  go_enter Tryz.func23, Tryz.ntmps23
  go_wp2_with fail
  refine (there_yes _ m hm2 _).mono ?_
  rintro e w1 ⟨rfl, rfl⟩
  go_wp2_with fail
  refine (clone_any (H.out.g me) HL.out).mono ?_
  rintro e w2 ⟨A6, c6, F6, rfl, hv6, hn6, hb6⟩
  have HR := Lib.hid (And.intro hv6 (And.intro hn6 hb6))
  clear hv6 hn6 hb6
  go_wp2_with fail
  go_ret
  exact ⟨A6, c6, F6, rfl, HR.out⟩
end
end Go.Proofs.YtihhflajkohibaaGreatDoor.Pipe
