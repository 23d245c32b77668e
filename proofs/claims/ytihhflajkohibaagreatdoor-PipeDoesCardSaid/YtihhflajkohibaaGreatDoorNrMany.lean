/- Layer 8, the reference: a net as a value: what reads it. Conditions: the value's rows lie (RefNet). -/
import Derived.Test.YtihhflajkohibaaGreatDoorNetLaws
import Derived.Test.YtihhflajkohibaaGreatDoorWhole
import Derived.Test.YtihhflajkohibaaGreatDoorFlow
import Derived.Deep.QuietTactic
import Derived.Outline
namespace Go.Proofs.YtihhflajkohibaaGreatDoor.Net
set_option linter.unusedSimpArgs false
set_option linter.unusedVariables false
set_option maxRecDepth 100000
open Go.RowKit
theorem str_info : (Tryz.prog.info? 9).map (fun i => (i.zero, i.size, i.bytes)) = some (some (.string ⟨#[]⟩), 1, 16) := by kernel_rfl
theorem way_info : (Tryz.prog.info? 110).map (fun i => (i.zero, i.size, i.bytes)) = some (some (.agg #[.int .i64 0, .int .i64 0, .slice none 0 0]), 3, 40) := by kernel_rfl
theorem vec_empty (w : World) (e : TypeId) (size g : Nat) (hg : w.heap.size = g) : Vec (w.alloc (.cells #[] e)) [g] size (some ⟨g, 0, none⟩) 0 0 [] := by
  subst hg
  have h := Vec.of_new (w := w.alloc (.cells #[] e)) (e := e) (g := w.heap.size) #[] size 0 0 (Nat.le_refl _) (Nat.zero_le _) (by simp) (heap_alloc_new w _)
  simpa using h
/-- a way of the reference's net -/
structure Way where
  a : Int
  b : Int
  A : Option Addr
  c : Nat
  xs : List ByteArray
def Way.cells (x : Way) : List Value := [.int .i64 x.a, .int .i64 x.b, .slice x.A x.xs.length x.c]
def Way.is (x : Way) (a b : Int) : Bool := decide (x.a = a ∧ x.b = b)
def rowOf : List Way → Int → Int → List ByteArray
  | [], _, _ => []
  | x :: r, a, b => if x.is a b then x.xs else rowOf r a b
theorem rowOf_filter (ws : List Way) (a b x y : Int) (h : ¬ (x = a ∧ y = b)) : rowOf (ws.filter fun z => !z.is a b) x y = rowOf ws x y := by
  induction ws with
  | nil => rfl
  | cons z r ih =>
    rw [List.filter_cons]
    cases hz : z.is a b
    · simp only [Bool.not_false, if_true, rowOf, ih]
    · simp only [Bool.not_true, Bool.false_eq_true, if_false, ih, rowOf]
      rw [if_neg]
      simp only [Way.is, decide_eq_true_eq] at hz ⊢
      omega
/-- a net as a value: its ways and their rows lie in blocks of G -/
structure RefNet (w : World) (G : List Nat) (v : Value) (s : NS) (W : Option Addr) (c : Nat) (ws : List Way) : Prop where
  v : v = .agg #[.int .i64 (s.n : Int), .int .i64 (s.m : Int), .slice W ws.length c]
  ways : ∃ H, Vec w H 3 W ws.length c (ws.flatMap Way.cells) ∧ ∀ k, k ∈ H → k ∈ G
  rows : ∀ x ∈ ws, ∃ H, Vec w H 1 x.A x.xs.length x.c (x.xs.map .string) ∧ ∀ k, k ∈ H → k ∈ G
  f : ∀ a b, rowOf ws a b = s.f a b
  own : ∀ x ∈ ws, s.f x.a x.b = x.xs
  ok : s.Ok
  lt : ∀ k, k ∈ G → k < w.heap.size
section
variable {w w' : World} {G : List Nat} {v : Value} {s : NS} {W : Option Addr} {c : Nat} {ws : List Way}
theorem RefNet.keep (h : RefNet w G v s W c ws) (hs : w.heap.size ≤ w'.heap.size) (hb : ∀ k, k ∈ G → w'.heap[k]? = w.heap[k]?) : RefNet w' G v s W c ws := by
  obtain ⟨H, h1, h2⟩ := h.ways
  refine ⟨h.v, ⟨H, h1.keep hs fun k hk => hb k (h2 k hk), h2⟩, fun x hx => ?_, h.f, h.own, h.ok, fun k hk => Nat.lt_of_lt_of_le (h.lt k hk) hs⟩
  obtain ⟨H, h1, h2⟩ := h.rows x hx
  exact ⟨H, h1.keep hs fun k hk => hb k (h2 k hk), h2⟩
theorem RefNet.after (h : RefNet w G v s W c ws) (hb : Below w.heap.size w w') : RefNet w' G v s W c ws := h.keep hb.size fun k hk => hb.block k (h.lt k hk)
theorem RefNet.kept {L : List Nat} (h : RefNet w G v s W c ws) (hk : Kept L w w') (hL : ∀ k, k ∈ G → k ∉ L) : RefNet w' G v s W c ws := h.keep hk.size fun k hm => hk.block k (h.lt k hm) (hL k hm)
theorem RefNet.drewN (h : RefNet w G v s W c ws) (n : Nat) : RefNet (w.drewN n) G v s W c ws := h.keep (Nat.le_refl _) fun _ _ => rfl
theorem RefNet.alloc (h : RefNet w G v s W c ws) (o : Obj) : RefNet (w.alloc o) G v s W c ws := h.after ((Below.refl _ _).alloc (Nat.le_refl _) o)
/-- the cells of a way -/
structure WayAt (w : World) (g o : Nat) (x : Way) : Prop where
  c0 : w.cell? ⟨g, o, none⟩ = some (.int .i64 x.a)
  c1 : w.cell? ⟨g, o + 1, none⟩ = some (.int .i64 x.b)
  c2 : w.cell? ⟨g, o + 2, none⟩ = some (.slice x.A x.xs.length x.c)
theorem RefNet.way (h : RefNet w G v s W c ws) {k : Nat} (hk : k < ws.length) : ∃ g o, W = some ⟨g, o, none⟩ ∧ g ∈ G ∧ WayAt w g (o + k * 3) ws[k] := by
  obtain ⟨H, h1, h2⟩ := h.ways
  have hat : ∀ r u, r < 3 → (ws[k].cells)[r]? = some u → (ws.flatMap Way.cells)[k * 3 + r]? = some u := fun r u hr hu => by
    rw [flat_get (size := 3) (fun _ => rfl) ws k r hr, List.getElem?_eq_getElem hk]; exact hu
  obtain ⟨g, o, e, hH, hg, q0⟩ := h1.at (hat 0 _ (by omega) rfl)
  obtain ⟨g1, o1, e1, _, _, q1⟩ := h1.at (hat 1 _ (by omega) rfl)
  obtain ⟨g2, o2, e2, _, _, q2⟩ := h1.at (hat 2 _ (by omega) rfl)
  rw [e] at e1 e2
  injection e1 with e1
  injection e1 with e11 e12
  injection e2 with e2
  injection e2 with e21 e22
  subst e11; subst e12; subst e21; subst e22
  refine ⟨g, o, e, h2 g (by rw [hH]; simp), by simpa using q0, by rw [Nat.add_assoc]; exact q1, by rw [Nat.add_assoc]; exact q2⟩
theorem rowOf_drop (ws : List Way) (k : Nat) (hk : k < ws.length) (a b : Int) : rowOf (ws.drop k) a b = if (ws[k]).is a b then (ws[k]).xs else rowOf (ws.drop (k + 1)) a b := by
  rw [List.drop_eq_getElem_cons hk]; rfl
theorem rowOf_nil (ws : List Way) (h : ∀ x ∈ ws, x.xs = []) (a b : Int) : rowOf ws a b = [] := by
  induction ws with
  | nil => rfl
  | cons x r ih =>
    simp only [rowOf]
    split
    · exact h x (by simp)
    · exact ih fun y hy => h y (by simp [hy])
def RowSaid8 (w : World) (G : List Nat) (s : NS) (a b : Int) (e : Ending) (w' : World) : Prop :=
  ∃ A c H, e = .returned (.slice A (s.f a b).length c) ∧ Vec w H 1 A (s.f a b).length c ((s.f a b).map .string) ∧ (∀ k, k ∈ H → k ∈ G) ∧ Below w.heap.size w w'
set_option maxHeartbeats 4000000 in
theorem ref_row (h : RefNet w G v s W c ws) (a b : Int) (hl : ws.length ≤ 1000) :
    Calls Tryz.prog 27 #[v, .int .i64 a, .int .i64 b] w (RowSaid8 w G s a b) := by
  have hbx : Below w.heap.size w (w.alloc (.cells #[.int .i64 (s.n : Int), .int .i64 (s.m : Int), .slice W ws.length c] 33)) := (Below.refl _ _).alloc (Nat.le_refl _) _
  have H := Lib.hid (h.after hbx)
  have H0 := Lib.hid h
  have HB := Lib.hid hbx
  have hv := h.v
  subst hv
  clear h hbx
  go_enter Tryz.func27, Tryz.ntmps27
  go_wp2_with fail
  go_loop [7] (fun i => ∃ k : Nat, k ≤ ws.length ∧ i = .int .i64 (k : Int) ∧ rowOf (ws.drop k) a b = s.f a b) (fun i => ws.length - (intOf i).toNat)
  case atStart => exact ⟨0, Nat.zero_le _, rfl, by simpa using H0.out.f a b⟩
  case round =>
    obtain ⟨k, hk, rfl, hro⟩ := hrel
    by_cases hlt : k < ws.length
    · obtain ⟨g, o, rfl, hg, hat⟩ := H.out.way hlt
      rw [rowOf_drop ws k hlt] at hro
      have hxs := H0.out.rows ws[k] (List.getElem_mem hlt)
      have HXS := Lib.hid hxs
      have HRO := Lib.hid hro
      clear hro hxs
      generalize ws[k] = x at *
      obtain ⟨c0, c1, c2⟩ := hat
      have i0 : (0 : Int) ≤ (k : Int) := by omega
      have i1 : (k : Int) < (ws.length : Int) := by omega
      by_cases q1 : x.a = a
      · by_cases q2 : x.b = b
        · have hr := HRO.out
          rw [if_pos (by simp [Way.is, q1, q2])] at hr
          have HR := Lib.hid hr
          have d1 : (x.a == a) = true := beq_iff_eq.2 q1
          have d2 : (x.b == b) = true := beq_iff_eq.2 q2
          clear hr q1 q2
          go_wp2_with fail
          go_ret
          obtain ⟨J, k1, k2⟩ := HXS.out
          rw [HR.out] at k1
          exact ⟨x.A, x.c, J, (by rw [HR.out]; rfl), k1, k2, HB.out⟩
        · have hr := HRO.out
          rw [if_neg (by simp [Way.is, q2])] at hr
          have HR := Lib.hid hr
          have d1 : (x.a == a) = true := beq_iff_eq.2 q1
          have d2 : (x.b == b) = false := beq_eq_false_iff_ne.2 q2
          clear hr q1 q2
          go_wp2_with fail
          go_round
          case rel => exact ⟨k + 1, by omega, by go_num, HR.out⟩
          case measure => simp [intOf]; omega
      · have hr := HRO.out
        rw [if_neg (by simp [Way.is, q1])] at hr
        have HR := Lib.hid hr
        have d1 : (x.a == a) = false := beq_eq_false_iff_ne.2 q1
        clear hr q1
        go_wp2_with fail
        go_round
        case rel => exact ⟨k + 1, by omega, by go_num, HR.out⟩
        case measure => simp [intOf]; omega
    · obtain rfl : k = ws.length := by omega
      have hr : s.f a b = [] := by rw [← hro, List.drop_length]; rfl
      have HR := Lib.hid hr
      clear hr hro
      go_wp2_with fail
      go_ret
      exact ⟨none, 0, [], by rw [HR.out]; rfl, by rw [HR.out]; exact Vec.nil _ _, by simp, HB.out⟩
theorem ref_new (n room : Int) (w : World) :
    Calls Tryz.prog 33 #[.int .i64 n, .int .i64 room] w fun e w' => ∃ v, e = .returned v ∧ RefNet w' [] v (new n room) none 0 [] ∧ Below w.heap.size w w' := by
  have h1 : ((clampN n 64 : Nat) : Int) = min (max n 0) 64 := by unfold clampN; omega
  have h2 : ((clampN room 1000 : Nat) : Int) = min (max room 0) 1000 := by unfold clampN; omega
  have hfin : ∀ (w' : World) (x y : Int), x = ((clampN n 64 : Nat) : Int) → y = ((clampN room 1000 : Nat) : Int) → RefNet w' [] (.agg #[.int .i64 x, .int .i64 y, .slice none 0 0]) (new n room) none 0 [] := by
    intro w' x y hx hy
    subst hx; subst hy
    exact ⟨rfl, ⟨[], Vec.nil _ _, by simp⟩, by simp, fun _ _ => rfl, by simp, new_ok n room, by simp⟩
  have HF := Lib.hid hfin
  have H1 := Lib.hid h1
  have H2 := Lib.hid h2
  clear h1 h2 hfin
  go_enter Tryz.func33, Tryz.ntmps33
  go_wp2
  all_goals
    exact bodyPost_ret (v := .agg #[.int .i64 _, .int .i64 _, .slice none 0 0]) (by simp [results, Tryz.results33, go_sem]; exact ⟨rfl, rfl⟩) rfl ⟨_, rfl, HF.out _ _ _ (by rw [H1.out]; omega) (by rw [H2.out]; omega), (Below.refl _ _).alloc (Nat.le_refl _) _⟩
set_option maxHeartbeats 4000000 in
theorem ref_nodes (h : RefNet w G v s W c ws) (a b : Int) :
    Calls Tryz.prog 68 #[v, .int .i64 a, .int .i64 b] w fun e w' => e = .returned (.bool (s.good a b)) ∧ Below w.heap.size w w' := by
  have hbx : Below w.heap.size w (w.alloc (.cells #[.int .i64 (s.n : Int), .int .i64 (s.m : Int), .slice W ws.length c] 33)) := (Below.refl _ _).alloc (Nat.le_refl _) _
  have HB := Lib.hid hbx
  have hv := h.v
  subst hv
  clear h hbx
  have hcase : (a < 0 ∧ s.good a b = false) ∨ (0 ≤ a ∧ (s.n : Int) ≤ a ∧ s.good a b = false) ∨ (0 ≤ a ∧ a < (s.n : Int) ∧ b < 0 ∧ s.good a b = false) ∨ (0 ≤ a ∧ a < (s.n : Int) ∧ 0 ≤ b ∧ (s.n : Int) ≤ b ∧ s.good a b = false) ∨ (0 ≤ a ∧ a < (s.n : Int) ∧ 0 ≤ b ∧ b < (s.n : Int) ∧ a = b ∧ s.good a b = false) ∨ (0 ≤ a ∧ a < (s.n : Int) ∧ 0 ≤ b ∧ b < (s.n : Int) ∧ a ≠ b ∧ s.good a b = true) := by
    unfold NS.good
    by_cases h1 : a < 0
    · exact .inl ⟨h1, by simp; omega⟩
    · by_cases h2 : (s.n : Int) ≤ a
      · exact .inr (.inl ⟨by omega, h2, by simp; omega⟩)
      · by_cases h3 : b < 0
        · exact .inr (.inr (.inl ⟨by omega, by omega, h3, by simp; omega⟩))
        · by_cases h4 : (s.n : Int) ≤ b
          · exact .inr (.inr (.inr (.inl ⟨by omega, by omega, by omega, h4, by simp; omega⟩)))
          · by_cases h5 : a = b
            · exact .inr (.inr (.inr (.inr (.inl ⟨by omega, by omega, by omega, by omega, h5, by simp; omega⟩))))
            · exact .inr (.inr (.inr (.inr (.inr ⟨by omega, by omega, by omega, by omega, h5, by simp; omega⟩))))
  rcases hcase with ⟨h1, hg⟩ | ⟨h1, h2, hg⟩ | ⟨h1, h2, h3, hg⟩ | ⟨h1, h2, h3, h4, hg⟩ | ⟨h1, h2, h3, h4, rfl, hg⟩ | ⟨h1, h2, h3, h4, h5, hg⟩
  · rw [hg]; clear hg
    have d1 : decide (0 ≤ a) = false := by simp; omega
    go_enter Tryz.func68, Tryz.ntmps68
    go_wp2_with fail
    go_ret
    exact ⟨rfl, HB.out⟩
  · rw [hg]; clear hg
    have d1 : decide (0 ≤ a) = true := by simp; omega
    have d2 : decide (a < (s.n : Int)) = false := by simp; omega
    go_enter Tryz.func68, Tryz.ntmps68
    go_wp2_with fail
    go_ret
    exact ⟨rfl, HB.out⟩
  · rw [hg]; clear hg
    have d1 : decide (0 ≤ a) = true := by simp; omega
    have d2 : decide (a < (s.n : Int)) = true := by simp; omega
    have d3 : decide (0 ≤ b) = false := by simp; omega
    go_enter Tryz.func68, Tryz.ntmps68
    go_wp2_with fail
    go_ret
    exact ⟨rfl, HB.out⟩
  · rw [hg]; clear hg
    have d1 : decide (0 ≤ a) = true := by simp; omega
    have d2 : decide (a < (s.n : Int)) = true := by simp; omega
    have d3 : decide (0 ≤ b) = true := by simp; omega
    have d4 : decide (b < (s.n : Int)) = false := by simp; omega
    go_enter Tryz.func68, Tryz.ntmps68
    go_wp2_with fail
    go_ret
    exact ⟨rfl, HB.out⟩
  · rw [hg]; clear hg
    have d1 : decide (0 ≤ a) = true := by simp; omega
    have d2 : decide (a < (s.n : Int)) = true := by simp; omega
    go_enter Tryz.func68, Tryz.ntmps68
    go_wp2_with fail
    go_ret
    exact ⟨rfl, HB.out⟩
  · rw [hg]; clear hg
    have d1 : decide (0 ≤ a) = true := by simp; omega
    have d2 : decide (a < (s.n : Int)) = true := by simp; omega
    have d3 : decide (0 ≤ b) = true := by simp; omega
    have d4 : decide (b < (s.n : Int)) = true := by simp; omega
    have d5 : (a == b) = false := beq_eq_false_iff_ne.2 h5
    have d6 : (a != b) = true := bne_iff_ne.2 h5
    clear h5
    go_enter Tryz.func68, Tryz.ntmps68
    go_wp2_with fail
    go_ret
    exact ⟨rfl, HB.out⟩
set_option maxHeartbeats 4000000 in
theorem ref_look (h : RefNet w G v s W c ws) (a b k : Int) (hl : ws.length ≤ 1000) :
    Calls Tryz.prog 29 #[v, .int .i64 a, .int .i64 b, .int .i64 k] w fun e w' => e = .returned (.tuple #[.string (s.look a b k), .bool (s.isAt a b k)]) ∧ Below w.heap.size w w' := by
  have hbx : Below w.heap.size w (w.alloc (.cells #[.int .i64 (s.n : Int), .int .i64 (s.m : Int), .slice W ws.length c] 33)) := (Below.refl _ _).alloc (Nat.le_refl _) _
  have H := Lib.hid (h.after hbx)
  have HB := Lib.hid hbx
  have hv := h.v
  have hcap := Nat.le_trans (h.ok.room a b) h.ok.m1000
  subst hv
  clear h hbx
  have hlk : s.look a b k = if 0 ≤ k ∧ k < ((s.f a b).length : Int) then (s.f a b).getD k.toNat ⟨#[]⟩ else ⟨#[]⟩ := by
    unfold NS.look NS.isAt
    by_cases c : 0 ≤ k ∧ k < ((s.f a b).length : Int)
    · rw [if_pos (by simpa using c), if_pos c]
    · rw [if_neg (by simpa using c), if_neg c]
  have hia : s.isAt a b k = decide (0 ≤ k ∧ k < ((s.f a b).length : Int)) := rfl
  have hno : ¬ (0 ≤ k ∧ k < ((s.f a b).length : Int)) → s.look a b k = ⟨#[]⟩ ∧ s.isAt a b k = false := fun h => by rw [hlk, hia, if_neg h]; exact ⟨rfl, by simpa using h⟩
  have HNO := Lib.hid hno
  have hyes : ∀ j : Nat, k = (j : Int) → ∀ h : j < (s.f a b).length, s.look a b k = (s.f a b)[j] ∧ s.isAt a b k = true := fun j e h => by
    rw [hlk, hia, if_pos (by omega), e, Int.toNat_natCast, List.getD_eq_getElem?_getD, List.getElem?_eq_getElem h]
    exact ⟨rfl, by simp; omega⟩
  have HYES := Lib.hid hyes
  clear hlk hia hno hyes
  go_enter Tryz.func29, Tryz.ntmps29
  go_wp2_with fail
  refine (ref_row H.out a b hl).mono ?_
  rintro e w1 ⟨A, d, K, rfl, hvec, _, hb⟩
  have HV := Lib.hid (hvec.after hb)
  have HB1 := Lib.hid (HB.out.trans (hb.mono HB.out.size))
  clear hvec hb
  generalize s.f a b = xs at *
  by_cases h1 : k < 0
  · have d1 : decide (k < 0) = true := by simpa using h1
    have HE := Lib.hid (HNO.out (by omega))
    clear h1
    go_wp2_with fail
    go_ret2
    exact ⟨ret_sb HE.out.1.symm HE.out.2.symm, HB1.out⟩
  · have d1 : decide (k < 0) = false := by simpa using h1
    by_cases h2 : (xs.length : Int) ≤ k
    · have d2 : decide ((xs.length : Int) ≤ k) = true := by simpa using h2
      have HE := Lib.hid (HNO.out (by omega))
      clear h1 h2
      go_wp2_with fail
      go_ret2
      exact ⟨ret_sb HE.out.1.symm HE.out.2.symm, HB1.out⟩
    · obtain ⟨j, rfl⟩ : ∃ j : Nat, k = (j : Int) := ⟨k.toNat, by omega⟩
      have hj : j < xs.length := by omega
      have d2 : decide (xs.length ≤ j) = false := by simp; omega
      have HE := Lib.hid (HYES.out j rfl hj)
      obtain ⟨g, o, rfl, _, _, hc⟩ := HV.out.at (j := j) (u := .string xs[j]) (by rw [List.getElem?_map, List.getElem?_eq_getElem hj]; rfl)
      generalize xs[j] = t at *
      have i0 : (0 : Int) ≤ (j : Int) := by omega
      have i1 : (j : Int) < (xs.length : Int) := by omega
      clear h1 h2
      go_wp2_with fail
      go_ret2
      exact ⟨ret_sb HE.out.1.symm HE.out.2.symm, HB1.out⟩
def QuietR (w : World) (s : NS) (e : Ending) (w' : World) : Prop := ∃ b : Bool, e = .returned (.bool b) ∧ (b = true ↔ s.quiet) ∧ Below w.heap.size w w'
end
end Go.Proofs.YtihhflajkohibaaGreatDoor.Net
/- Layer 8, the reference: a net as a value: what makes another one of it. Conditions: the value's rows lie (RefNet). -/
namespace Go.Proofs.YtihhflajkohibaaGreatDoor.Net
set_option linter.unusedSimpArgs false
set_option linter.unusedVariables false
set_option maxRecDepth 100000
open Go.RowKit
section
variable {w w' : World} {G : List Nat} {v : Value} {s : NS} {W : Option Addr} {c : Nat} {ws : List Way}
/-- the ways behind With -/
def without (ws : List Way) (a b : Int) : List Way := ws.filter fun z => !z.is a b
theorem without_take (ws : List Way) (a b : Int) (k : Nat) (hk : k < ws.length) : without (ws.take (k + 1)) a b = without (ws.take k) a b ++ (if (ws[k]).is a b then [] else [ws[k]]) := by
  unfold without
  rw [List.take_succ_eq_append_getElem hk, List.filter_append]
  cases h : (ws[k]).is a b <;> simp [h]
structure WithRel (w2 : World) (a b : Int) (x : Way) (ws : List Way) (k : Nat) (u : Value) (wr : World) : Prop where
  row : ∃ J B d, u = .slice B ((without (ws.take k) a b).length + 1) d ∧ Vec wr J 3 B ((without (ws.take k) a b).length + 1) d (x.cells ++ (without (ws.take k) a b).flatMap Way.cells) ∧ ∀ j, j ∈ J → w2.heap.size ≤ j
  below : Below w2.heap.size w2 wr
theorem WithRel.skip {w2 wr : World} {a b : Int} {x : Way} {k : Nat} {u : Value} (h : WithRel w2 a b x ws k u wr) (hk : k < ws.length) (hi : (ws[k]).is a b = true) : WithRel w2 a b x ws (k + 1) u wr := by
  have e : without (ws.take (k + 1)) a b = without (ws.take k) a b := by rw [without_take ws a b k hk, hi]; simp
  obtain ⟨J, B, d, h1, h2, h3⟩ := h.row
  exact ⟨⟨J, B, d, by rw [e]; exact h1, by rw [e]; exact h2, h3⟩, h.below⟩
theorem WithRel.put {w2 wr w5 : World} {a b : Int} {x : Way} {k : Nat} {J F5 : List Nat} {A5 : Option Addr} {c5 : Nat} {o : Obj} (hb : Below w2.heap.size w2 wr) (hJ : ∀ j, j ∈ J → w2.heap.size ≤ j)
    (hv : Vec w5 F5 3 A5 ((without (ws.take k) a b).length + 1 + 1) c5 (x.cells ++ (without (ws.take k) a b).flatMap Way.cells ++ (ws.getD k x).cells)) (ht : Turns J F5 (wr.alloc o) w5) (hk : k < ws.length) (hi : (ws[k]).is a b = false) : WithRel w2 a b x ws (k + 1) (.slice A5 ((without (ws.take k) a b).length + 1 + 1) c5) w5 := by
  have e : without (ws.take (k + 1)) a b = without (ws.take k) a b ++ [ws[k]] := by rw [without_take ws a b k hk, hi]; simp
  have hg : ws.getD k x = ws[k] := by rw [List.getD_eq_getElem?_getD, List.getElem?_eq_getElem hk]; rfl
  rw [hg] at hv
  have hs := hb.size
  obtain ⟨k1, k2⟩ := ht.below (B := w2.heap.size) (by simp; omega) hJ
  refine ⟨⟨F5, A5, c5, by rw [e]; simp, ?_, k2⟩, (hb.alloc hs o).trans k1⟩
  rw [e]
  simpa using hv
theorem three_set {w : World} {g : Nat} {T : TypeId} {o0 o1 o2 : Value} (h : w.heap[g]? = some (.cells #[o0, o1, o2] T (0, 0))) (a0 a1 a2 : Value) :
    (((w.setCell ⟨g, 0, none⟩ a0).setCell ⟨g, 1, none⟩ a1).setCell ⟨g, 2, none⟩ a2).heap[g]? = some (.cells #[a0, a1, a2] T (0, 0)) ∧ Kept [g] w (((w.setCell ⟨g, 0, none⟩ a0).setCell ⟨g, 1, none⟩ a1).setCell ⟨g, 2, none⟩ a2) := by
  refine ⟨?_, ((((Kept.refl _ _).setCell (.inl (by simp)) _).setCell (.inl (by simp)) _).setCell (.inl (by simp)) _)⟩
  have k := set_block (set_block (set_block h 0 a0) 1 a1) 2 a2
  simpa using k
def WithSaid (w : World) (G K : List Nat) (s : NS) (a b : Int) (xs : List ByteArray) (n : Nat) (e : Ending) (w' : World) : Prop :=
  ∃ v' W' c' ws' G', e = .returned v' ∧ RefNet w' G' v' (s.set a b xs) W' c' ws' ∧ ws'.length ≤ n + 1 ∧ (∀ k, k ∈ G' → k ∈ G ∨ k ∈ K ∨ w.heap.size ≤ k) ∧ Below w.heap.size w w'
theorem with_end (h : RefNet w G v s W c ws) {a b : Int} {A : Option Addr} {d : Nat} {xs : List ByteArray} {K : List Nat} (hxs : Vec w K 1 A xs.length d (xs.map .string)) (hok : (s.set a b xs).Ok)
    {J : List Nat} {B : Option Addr} {d' : Nat} (hb : Below w.heap.size w w') (hJ : Vec w' J 3 B ((without ws a b).length + 1) d' ((⟨a, b, A, d, xs⟩ : Way).cells ++ (without ws a b).flatMap Way.cells)) (hJn : ∀ j, j ∈ J → w.heap.size ≤ j) :
    WithSaid w G K s a b xs ws.length (.returned (.agg #[.int .i64 (s.n : Int), .int .i64 (s.m : Int), .slice B ((without ws a b).length + 1) d'])) w' := by
  have hsub : ∀ x, x ∈ without ws a b → x ∈ ws ∧ ¬ (x.a = a ∧ x.b = b) := fun x hx => by
    have := List.mem_filter.1 hx
    refine ⟨this.1, ?_⟩
    have h2 := this.2
    simp only [Way.is, Bool.not_eq_true', decide_eq_false_iff_not] at h2
    exact h2
  refine ⟨_, B, d', ⟨a, b, A, d, xs⟩ :: without ws a b, G ++ K ++ J, rfl, ⟨rfl, ⟨J, hJ, fun k hk => by simp [hk]⟩, ?_, ?_, ?_, hok, ?_⟩, ?_, ?_, hb⟩
  · intro x hx
    rcases List.mem_cons.1 hx with rfl | hx
    · exact ⟨K, hxs.after hb, fun k hk => by simp [hk]⟩
    · obtain ⟨H, h1, h2⟩ := h.rows x (hsub x hx).1
      exact ⟨H, h1.after hb, fun k hk => by simp [h2 k hk]⟩
  · intro x y
    show (if Way.is ⟨a, b, A, d, xs⟩ x y then xs else rowOf (without ws a b) x y) = (s.set a b xs).f x y
    by_cases hxy : x = a ∧ y = b
    · obtain ⟨rfl, rfl⟩ := hxy
      rw [if_pos (by simp [Way.is]), NS.set_same]
    · rw [if_neg (by simp only [Way.is, decide_eq_true_eq]; omega), NS.set_other _ _ _ _ _ _ hxy, ← h.f x y]
      exact rowOf_filter ws a b x y hxy
  · intro x hx
    rcases List.mem_cons.1 hx with rfl | hx
    · exact NS.set_same _ _ _ _
    · rw [NS.set_other _ _ _ _ _ _ (hsub x hx).2]; exact h.own x (hsub x hx).1
  · intro k hk
    simp only [List.mem_append] at hk
    rcases hk with (hk | hk) | hk
    · exact Nat.lt_of_lt_of_le (h.lt k hk) hb.size
    · exact Nat.lt_of_lt_of_le (hxs.lt hk) hb.size
    · exact hJ.lt hk
  · have : (without ws a b).length ≤ ws.length := List.length_filter_le _ _
    simp; omega
  · intro k hk
    simp only [List.mem_append] at hk
    rcases hk with (hk | hk) | hk
    · exact .inl hk
    · exact .inr (.inl hk)
    · exact .inr (.inr (hJn k hk))
set_option maxRecDepth 100000 in
set_option maxHeartbeats 8000000 in
theorem ref_with (h : RefNet w G v s W c ws) (a b : Int) {A : Option Addr} {d : Nat} {xs : List ByteArray} {K : List Nat} (hxs : Vec w K 1 A xs.length d (xs.map .string)) (hok : (s.set a b xs).Ok) (hl : ws.length ≤ 1000) :
    Calls Tryz.prog 69 #[v, .int .i64 a, .int .i64 b, .slice A xs.length d] w (WithSaid w G K s a b xs ws.length) := by
  obtain ⟨i0, hi0, hz0, hz1, hz2⟩ := info_parts way_info
  have hv := h.v
  subst hv
  obtain ⟨w2, hw2⟩ : ∃ w2, (w.alloc (.cells #[.int .i64 (s.n : Int), .int .i64 (s.m : Int), .slice W ws.length c] 33)).alloc (.cells #[.int .i64 0, .int .i64 0, .slice none 0 0] 33) = w2 := ⟨_, rfl⟩
  have hsz2 : w.heap.size + 2 = w2.heap.size := by rw [← hw2]; simp
  have hb2 : Below w.heap.size w w2 := by rw [← hw2]; exact ((Below.refl _ _).alloc (Nat.le_refl _) _).alloc (by simp) _
  have q0 : w2.heap[w.heap.size]? = some (.cells #[.int .i64 (s.n : Int), .int .i64 (s.m : Int), .slice W ws.length c] 33 (0, 0)) := by
    rw [← hw2, Below.heap_alloc _ _ _ (by simp)]; exact heap_alloc_new w _
  have q1 : w2.heap[w.heap.size + 1]? = some (.cells #[.int .i64 0, .int .i64 0, .slice none 0 0] 33 (0, 0)) := by
    rw [← hw2]; exact heap_new_at _ _ _ (by simp)
  have hst : WithRel w2 a b ⟨a, b, A, d, xs⟩ ws 0 (.slice (some ⟨w.heap.size + 1 + 1, 0, none⟩) 1 1) (w2.alloc (.cells #[.int .i64 a, .int .i64 b, .slice A xs.length d] 110)) := by
    have hv := Vec.of_new (w := w2.alloc (.cells #[.int .i64 a, .int .i64 b, .slice A xs.length d] 110)) (g := w2.heap.size) #[.int .i64 a, .int .i64 b, .slice A xs.length d] 3 1 1 (Nat.le_refl _) (by unfold maxLen; omega) (by simp) (heap_alloc_new w2 _)
    have e1 : (without (ws.take 0) a b) = [] := rfl
    exact ⟨⟨[w2.heap.size], _, 1, by rw [e1, show w.heap.size + 1 + 1 = w2.heap.size from hsz2]; rfl, by rw [e1]; exact hv, by simp⟩, (Below.refl _ _).alloc (Nat.le_refl _) _⟩
  have H := Lib.hid (h.after hb2)
  have H0 := Lib.hid h
  have HX := Lib.hid hxs
  have HOK := Lib.hid hok
  have HST := Lib.hid hst
  have HQ0 := Lib.hid q0
  have HQ1 := Lib.hid q1
  have HB2 := Lib.hid hb2
  have HW2 := Lib.hid hw2
  have hszA : w.heap.size + 2 ≤ w2.heap.size := by omega
  have hszB : w2.heap.size ≤ w.heap.size + 2 := by omega
  clear h hxs hok hst q0 q1 hb2 hw2 hsz2
  go_enter Tryz.func69, Tryz.ntmps69
  go_wp2_with fail
  rw [HW2.out]
  go_loopw [9, 10] (fun u i wr => ∃ k : Nat, k ≤ ws.length ∧ i = .int .i64 (k : Int) ∧ WithRel w2 a b ⟨a, b, A, d, xs⟩ ws k u wr) (fun _ i _ => ws.length - (intOf i).toNat)
  case atStart => exact ⟨0, Nat.zero_le _, rfl, HST.out⟩
  case round =>
    obtain ⟨k, hk, rfl, hr⟩ := hrel
    have HR := Lib.hid hr
    have hbr := hr.below
    have hbx := (hbr.block w.heap.size (by omega)).trans HQ0.out
    have b0 := cell_of_block hbx 0
    have b1 := cell_of_block hbx 1
    have b2 := cell_of_block hbx 2
    simp at b0 b1 b2
    have HBX := Lib.hid hbx
    have HBR := Lib.hid hbr
    clear hr hbr hbx
    have hnl : (without (ws.take k) a b).length ≤ 1000 := by
      have h1 : (without (ws.take k) a b).length ≤ (ws.take k).length := List.length_filter_le _ _
      rw [List.length_take] at h1; omega
    by_cases hlt : k < ws.length
    · obtain ⟨g, o, rfl, hg, hat⟩ := (H.out.after HBR.out).way hlt
      obtain ⟨c0, c1, c2⟩ := hat
      have HI := Lib.hid (show ∀ z, ws[k] = z → (ws[k]).is a b = z.is a b from fun z e => by rw [e])
      have HGD := Lib.hid (show ∀ z, ws[k] = z → ws.getD k ⟨a, b, A, d, xs⟩ = z from fun z e => by rw [List.getD_eq_getElem?_getD, List.getElem?_eq_getElem hlt, ← e]; rfl)
      generalize hz : ws[k] = z at c0 c1 c2
      have HZ := Lib.hid hz
      clear hz
      have i0' : (0 : Int) ≤ (k : Int) := by omega
      have i1 : (k : Int) < (ws.length : Int) := by omega
      by_cases q1 : z.a = a
      · by_cases q2 : z.b = b
        · have HS := Lib.hid (HR.out.skip hlt (by rw [HI.out z HZ.out]; simp [Way.is, q1, q2]))
          have d1 : (z.a != a) = false := by simp [q1]
          have d2 : (z.b != b) = false := by simp [q2]
          clear q1 q2
          go_wp2_with fail
          go_roundw
          case rel => exact ⟨k + 1, by omega, by go_num, HS.out⟩
          case measure => simp [intOf]; omega
        · have HF := Lib.hid (show (ws[k]).is a b = false from by rw [HI.out z HZ.out]; simp [Way.is, q2])
          have d1 : (z.a != a) = false := by simp [q1]
          have d2 : (z.b != b) = true := by simp [q2]
          clear q1 q2
          obtain ⟨J, B, d5, rfl, hv5, hJ5⟩ := HR.out.row
          have HV5 := Lib.hid hv5
          have HJ5 := Lib.hid hJ5
          clear hv5 hJ5
          go_wp2_with (at_builtin; (refine wpList_append_vec _ (by rfl) _ _ _ _ (by rfl) 110 i0 _ 3 40 Tryz.underlying31 hi0 hz0 hz1 hz2 rfl J B ((without (ws.take k) a b).length + 1) d5 ((⟨a, b, A, d, xs⟩ : Way).cells ++ (without (ws.take k) a b).flatMap Way.cells) (.slice (some ⟨wr.heap.size, 0, none⟩) 1 1) 1 [.int .i64 z.a, .int .i64 z.b, .slice z.A z.xs.length z.c] (by rfl) (by rfl) (by exact HV5.out.alloc _) (by exact src_new _ Tryz.underlying31 [.int .i64 z.a, .int .i64 z.b, .slice z.A z.xs.length z.c] 3 1 1 rfl (by simp [Value.oneCell']) _ (heap_alloc_new wr _)) (by unfold maxLen; omega) (by omega) ?_; intro v6 w6 happ; obtain ⟨F6, A6, c6, rfl, hv6, ht6⟩ := happ.all))
          have hp := WithRel.put HBR.out HJ5.out (by rw [HGD.out z HZ.out]; exact hv6) ht6 hlt HF.out
          go_roundw
          case rel => exact ⟨k + 1, by omega, by go_num, hp⟩
          case measure => simp [intOf]; omega
      · have HF := Lib.hid (show (ws[k]).is a b = false from by rw [HI.out z HZ.out]; simp [Way.is, q1])
        have d1 : (z.a != a) = true := by simp [q1]
        clear q1
        obtain ⟨J, B, d5, rfl, hv5, hJ5⟩ := HR.out.row
        have HV5 := Lib.hid hv5
        have HJ5 := Lib.hid hJ5
        clear hv5 hJ5
        go_wp2_with (at_builtin; (refine wpList_append_vec _ (by rfl) _ _ _ _ (by rfl) 110 i0 _ 3 40 Tryz.underlying31 hi0 hz0 hz1 hz2 rfl J B ((without (ws.take k) a b).length + 1) d5 ((⟨a, b, A, d, xs⟩ : Way).cells ++ (without (ws.take k) a b).flatMap Way.cells) (.slice (some ⟨wr.heap.size, 0, none⟩) 1 1) 1 [.int .i64 z.a, .int .i64 z.b, .slice z.A z.xs.length z.c] (by rfl) (by rfl) (by exact HV5.out.alloc _) (by exact src_new _ Tryz.underlying31 [.int .i64 z.a, .int .i64 z.b, .slice z.A z.xs.length z.c] 3 1 1 rfl (by simp [Value.oneCell']) _ (heap_alloc_new wr _)) (by unfold maxLen; omega) (by omega) ?_; intro v6 w6 happ; obtain ⟨F6, A6, c6, rfl, hv6, ht6⟩ := happ.all))
        have hp := WithRel.put HBR.out HJ5.out (by rw [HGD.out z HZ.out]; exact hv6) ht6 hlt HF.out
        go_roundw
        case rel => exact ⟨k + 1, by omega, by go_num, hp⟩
        case measure => simp [intOf]; omega
    · obtain rfl : k = ws.length := by omega
      obtain ⟨J, B, d5, rfl, hv5, hJ5⟩ := HR.out.row
      rw [List.take_length] at hv5
      rw [List.take_length] at hnl ⊢
      have hrs := (HBR.out.block (w.heap.size + 1) (by omega)).trans HQ1.out
      have r0 := cell_of_block hrs 0
      have r1 := cell_of_block hrs 1
      have r2 := cell_of_block hrs 2
      simp at r0 r1 r2
      have f0 := frozen_of_block hrs 0
      have f1 := frozen_of_block hrs 1
      have f2 := frozen_of_block hrs 2
      have f3 := frozen_of_block HBX.out 2
      have HRS := Lib.hid hrs
      have HV5 := Lib.hid hv5
      have HJ5 := Lib.hid hJ5
      clear hrs hv5 hJ5
      go_wp2_with fail
      have q := three_set ((set_other (w := wr) (p := ⟨w.heap.size, 2, none⟩) (g := w.heap.size + 1) (by simp) (.slice B ((without ws a b).length + 1) d5)).trans HRS.out) (.int .i64 (s.n : Int)) (.int .i64 (s.m : Int)) (.slice B ((without ws a b).length + 1) d5)
      have hkf := ((Kept.refl _ wr).setCell (p := ⟨w.heap.size, 2, none⟩) (L := [w.heap.size, w.heap.size + 1]) (.inl (by simp)) (.slice B ((without ws a b).length + 1) d5)).trans (q.2.mono (by simp))
      refine ret_row1 Tryz.results69 (w.heap.size + 1) _ _ _ rfl q.1 Tryz.underlying33 rfl (by kernel_rfl) rfl ?_
      have hbw : Below w.heap.size w wr := HB2.out.trans (HBR.out.mono (by omega))
      refine with_end H0.out HX.out HOK.out (hbw.trans (hkf.below hbw.size (by simp))) (HV5.out.kept hkf fun j hj => ?_) fun j hj => ?_
      · have := HJ5.out j hj; simp; omega
      · have := HJ5.out j hj; omega
end
end Go.Proofs.YtihhflajkohibaaGreatDoor.Net
/- Layer 8, the reference: a net as a value: Send, Double. Conditions: the value's rows lie (RefNet). -/
namespace Go.Proofs.YtihhflajkohibaaGreatDoor.Net
set_option linter.unusedSimpArgs false
set_option linter.unusedVariables false
set_option maxRecDepth 100000
open Go.RowKit
/-- what hands back another net and whether -/
def PutSaid (w : World) (G : List Nat) (s' : NS) (n : Nat) (ok : Bool) (e : Ending) (w' : World) : Prop :=
  ∃ v' W' c' ws' G', e = .returned (.tuple #[v', .bool ok]) ∧ RefNet w' G' v' s' W' c' ws' ∧ ws'.length ≤ n + 1 ∧ (∀ k, k ∈ G' → k ∈ G ∨ w.heap.size ≤ k) ∧ Below w.heap.size w w'
/-- the box of the argument, and the block of the result -/
structure Boxes (w w2 : World) (x0 x1 x2 : Value) : Prop where
  sz : w2.heap.size = w.heap.size + 2
  below : Below w.heap.size w w2
  box : w2.heap[w.heap.size]? = some (.cells #[x0, x1, x2] 33 (0, 0))
  res : w2.heap[w.heap.size + 1]? = some (.cells #[.int .i64 0, .int .i64 0, .slice none 0 0] 33 (0, 0))
theorem boxes (w : World) (x0 x1 x2 : Value) : Boxes w ((w.alloc (.cells #[x0, x1, x2] 33)).alloc (.cells #[.int .i64 0, .int .i64 0, .slice none 0 0] 33)) x0 x1 x2 := by
  refine ⟨by simp, ((Below.refl _ _).alloc (Nat.le_refl _) _).alloc (by simp) _, ?_, ?_⟩
  · rw [Below.heap_alloc _ _ _ (by simp)]; exact heap_alloc_new w _
  · exact heap_new_at _ _ _ (by simp)
/-- six facts of a block of three cells -/
structure Three (w : World) (g : Nat) (a0 a1 a2 : Value) : Prop where
  c0 : w.cell? ⟨g, 0, none⟩ = some a0
  c1 : w.cell? ⟨g, 1, none⟩ = some a1
  c2 : w.cell? ⟨g, 2, none⟩ = some a2
  f0 : w.frozen? ⟨g, 0, none⟩ = false
  f1 : w.frozen? ⟨g, 1, none⟩ = false
  f2 : w.frozen? ⟨g, 2, none⟩ = false
theorem three {w : World} {g : Nat} {t : TypeId} {a0 a1 a2 : Value} (h : w.heap[g]? = some (.cells #[a0, a1, a2] t (0, 0))) : Three w g a0 a1 a2 := by
  refine ⟨?_, ?_, ?_, frozen_of_block h _, frozen_of_block h _, frozen_of_block h _⟩ <;> (rw [cell_of_block h]; rfl)
theorem kept_fresh {L F : List Nat} {a w w' : World} (h : Kept L a w) (hk : Kept F w w') (hF : ∀ k, k ∈ F → a.heap.size ≤ k) : Kept L a w' :=
  ⟨hk.os.trans h.os, hk.tape.trans h.tape, hk.output.trans h.output, Nat.le_trans h.size hk.size, fun k h1 h2 => (hk.block k (Nat.lt_of_lt_of_le h1 h.size) (fun hm => by have := hF k hm; omega)).trans (h.block k h1 h2)⟩
section
variable {w w' : World} {G : List Nat} {v : Value} {s : NS} {W : Option Addr} {c : Nat} {ws : List Way}
theorem empty_cells (v : World) (t : TypeId) : ∃ b, b = v.heap.size ∧ Vec (v.alloc (.cells #[] t)) [b] 1 (some ⟨b, 0, none⟩) 0 0 [] ∧ (v.alloc (.cells #[] t)).heap[b]? = some (.cells #[] t (0, 0)) :=
  ⟨_, rfl, vec_empty v t 1 _ rfl, heap_alloc_new v _⟩
theorem b_ne {v : World} {b d : Nat} {t t' : TypeId} {x : Value} (h1 : v.heap[b]? = some (.cells #[] t (0, 0))) (h2 : v.heap[d]? = some (.cells #[x] t' (0, 0))) : d ≠ b := by
  rintro rfl; rw [h1] at h2; simp at h2
set_option maxRecDepth 100000 in
set_option maxHeartbeats 8000000 in
theorem ref_send (h : RefNet w G v s W c ws) (a b : Int) (t : ByteArray) (hl : ws.length ≤ 900) :
    Calls Tryz.prog 43 #[v, .int .i64 a, .int .i64 b, .string t] w (PutSaid w G (s.send a b t) ws.length (s.sendOk a b)) := by
  obtain ⟨i0, hi0, hz0, hz1, hz2⟩ := info_parts str_info
  have hv := h.v
  subst hv
  have hbx := boxes w (.int .i64 (s.n : Int)) (.int .i64 (s.m : Int)) (.slice W ws.length c)
  obtain ⟨w2, hw2⟩ : ∃ w2, (w.alloc (.cells #[.int .i64 (s.n : Int), .int .i64 (s.m : Int), .slice W ws.length c] 33)).alloc (.cells #[.int .i64 0, .int .i64 0, .slice none 0 0] 33) = w2 := ⟨_, rfl⟩
  rw [hw2] at hbx
  have hcap := h.ok.room a b
  have hm := h.ok.m1000
  have HBX := Lib.hid hbx
  have H0 := Lib.hid h
  have H := Lib.hid (h.after hbx.below)
  have HW2 := Lib.hid hw2
  have HSD := Lib.hid (show s.sendOk a b = (s.good a b && decide ((s.f a b).length < s.m)) from rfl)
  have HS1 := Lib.hid (show ∀ x, s.sendOk a b = x → s.send a b t = if x then s.set a b (s.f a b ++ [t]) else s from fun x e => by unfold NS.send; rw [e])
  have HSO := Lib.hid (show s.sendOk a b = true → (s.send a b t).Ok from fun _ => h.ok.send a b t)
  clear h hbx hw2
  go_enter Tryz.func43, Tryz.ntmps43
  go_wp2_with fail
  rw [HW2.out]
  obtain ⟨b0, b1, b2, _, _, _⟩ := three HBX.out.box
  go_wp2_with fail
  refine (ref_row H.out a b (by omega)).mono ?_
  rintro e w3 ⟨A3, c3, K, rfl, hv3, hK3, hb3⟩
  have hbox3 := (hb3.block _ (lt_of_block HBX.out.box)).trans HBX.out.box
  have HV3 := Lib.hid (hv3.after hb3)
  have HK3 := Lib.hid hK3
  have HB3 := Lib.hid hb3
  have H3 := Lib.hid (H.out.after hb3)
  clear hv3 hK3 hb3 b0 b1 b2
  obtain ⟨b0, b1, b2, _, _, _⟩ := three hbox3
  clear hbox3
  go_wp2_with fail
  refine (ref_nodes H3.out a b).mono ?_
  rintro e w4 ⟨rfl, hb4⟩
  have HB4 := Lib.hid (HB3.out.trans (hb4.mono HB3.out.size))
  have HV4 := Lib.hid (HV3.out.after hb4)
  have H4 := Lib.hid (H3.out.after hb4)
  have hbox4 := (HB4.out.block _ (lt_of_block HBX.out.box)).trans HBX.out.box
  have hres4 := (HB4.out.block _ (lt_of_block HBX.out.res)).trans HBX.out.res
  have HBOX := Lib.hid hbox4
  have HRES := Lib.hid hres4
  clear b0 b1 b2 hb4
  obtain ⟨b0, b1, b2, _, _, _⟩ := three hbox4
  obtain ⟨_, _, _, g0, g1, g2⟩ := three hres4
  have hbw : Below w.heap.size w w4 := HBX.out.below.trans (HB4.out.mono (by have := HBX.out.sz; omega))
  have HBW := Lib.hid hbw
  have hsz4 : w.heap.size + 2 ≤ w4.heap.size := by have := HB4.out.size; have := HBX.out.sz; omega
  clear hbox4 hres4 hbw
  generalize hxs : s.f a b = xs at *
  have HXS := Lib.hid hxs
  clear hxs
  have hno : s.sendOk a b = false → ∀ wf, Kept [w.heap.size + 1] w4 wf → PutSaid w G (s.send a b t) ws.length (s.sendOk a b) (.returned (.tuple #[.agg #[.int .i64 (s.n : Int), .int .i64 (s.m : Int), .slice W ws.length c], .bool false])) wf := by
    intro e wf hk
    rw [e, HS1.out _ e]
    refine ⟨_, W, c, ws, G, rfl, ?_, by omega, fun k hk => .inl hk, HBW.out.trans (hk.below HBW.out.size (by simp))⟩
    exact H4.out.kept hk (fun k hk2 => by have := H0.out.lt k hk2; simp; omega)
  have HNO := Lib.hid hno
  clear hno
  cases hg : s.good a b
  · have HSF := Lib.hid (show s.sendOk a b = false from by rw [HSD.out, hg]; rfl)
    clear hg
    go_wp2_with fail
    have q := three_set HRES.out (.int .i64 (s.n : Int)) (.int .i64 (s.m : Int)) (.slice W ws.length c)
    refine ret_row2 Tryz.results43 (w.heap.size + 1) _ _ _ _ rfl q.1 rfl Tryz.underlying33 rfl (by kernel_rfl) rfl ?_
    exact HNO.out HSF.out _ q.2
  · by_cases hfull : s.m ≤ xs.length
    · have HSF := Lib.hid (show s.sendOk a b = false from by rw [HSD.out, hg]; simp; omega)
      have hd : decide (s.m ≤ xs.length) = true := by simpa using hfull
      clear hg hfull
      go_wp2_with fail
      have q := three_set HRES.out (.int .i64 (s.n : Int)) (.int .i64 (s.m : Int)) (.slice W ws.length c)
      refine ret_row2 Tryz.results43 (w.heap.size + 1) _ _ _ _ rfl q.1 rfl Tryz.underlying33 rfl (by kernel_rfl) rfl ?_
      exact HNO.out HSF.out _ q.2
    · have hst : s.sendOk a b = true := by rw [HSD.out, hg]; simp; omega
      have HSF := Lib.hid hst
      have hok := HSO.out hst
      have he := HS1.out _ hst
      rw [if_pos rfl] at he
      rw [he] at hok
      obtain ⟨ys, hys⟩ : ∃ ys, xs ++ [t] = ys := ⟨_, rfl⟩
      rw [hys] at he hok
      have HYS := Lib.hid hys
      have HYL := Lib.hid (show ys.length = xs.length + 1 from by rw [← hys]; simp)
      have HE := Lib.hid he
      have HOK := Lib.hid hok
      have hd : decide (s.m ≤ xs.length) = false := by simp; omega
      have hx1000 : xs.length ≤ 1000 := by omega
      clear hg hfull hst hok he hys
      go_wp2_with fail
      clear b0 b1 b2 g0 g1 g2
      refine' wp_flow [only 0 (.agg #[.int .i64 (s.n : Int), .int .i64 (s.m : Int), .slice W ws.length c]), only 1 _, only 2 _, own 3 (fun y v => ∃ b, y = .slice (some ⟨b, 0, none⟩) 0 0 ∧ w4.heap.size ≤ b ∧ Vec v [b] 1 (some ⟨b, 0, none⟩) 0 0 [] ∧ v.heap[b]? = some (.cells #[] 9 (0, 0))), only 4 _, own 5 (fun y v => ∃ F A5 c5, y = .slice A5 xs.length c5 ∧ Vec v F 1 A5 xs.length c5 (xs.map .string) ∧ ∀ k, k ∈ F → w4.heap.size ≤ k), only 6 _, own 7 (fun y v => ∃ b, y = .slice (some ⟨b, 0, none⟩) 1 1 ∧ w4.heap.size ≤ b ∧ v.heap[b]? = some (.cells #[.string t] 9 (0, 0))), own 8 (fun y v => ∃ F A5 c5, y = .slice A5 ys.length c5 ∧ Vec v F 1 A5 ys.length c5 (ys.map .string) ∧ ∀ k, k ∈ F → w4.heap.size ≤ k), own 9 (fun y v => ∃ W' c' ws' G', RefNet v G' y (s.set a b ys) W' c' ws' ∧ ws'.length ≤ ws.length + 1 ∧ ∀ k, k ∈ G' → k ∈ G ∨ w4.heap.size ≤ k), (fun us v => ∃ W' c' ws' G' x2, RefNet v G' (.agg #[.int .i64 (s.n : Int), .int .i64 (s.m : Int), x2]) (s.set a b ys) W' c' ws' ∧ ws'.length ≤ ws.length + 1 ∧ (∀ k, k ∈ G' → k ∈ G ∨ w4.heap.size ≤ k) ∧ v.heap[w.heap.size + 1]? = some (.cells #[.int .i64 (s.n : Int), .int .i64 (s.m : Int), x2] 33 (0, 0))), only 11 _, (fun _ v => v.heap[w.heap.size + 1]? = some (.cells #[.int .i64 0, .int .i64 0, .slice none 0 0] 33 (0, 0)))] (fun v => Kept [w.heap.size + 1] w4 v) [[], [], [], [], [], [3, 4], [], [6], [5, 7], [0, 1, 2, 8], [9, 12], []] [[], [], [], [], [], [3], [], [], [5, 7], [8], [9, 12], []] [[], [], [], [], [], [], [], [], [], [], [], []] [[3, 5, 7, 8, 12], [3, 5, 7, 8, 12], [3, 5, 7, 8, 12], [7, 12], [3, 7, 12], [7, 12], [3, 5, 12], [3, 5, 12], [12], [12], [], [3, 5, 7, 8, 9, 10, 12]] [3, 5, 7, 8, 9, 10, 12] [0, 0, 0, 0, 0, 24, 0, 64, 248, 511, 1023, 0] _ (fun us => ?hfr) (by kernel_rfl) (by kernel_rfl) (by kernel_rfl) ⟨only_still _, only_still _, only_still _, trivial, only_still _, trivial, only_still _, trivial, trivial, trivial, trivial, only_still _, trivial, trivial⟩ ((Kept.refl _ w4).drew) (by simp) (HRES.out) ?hst ?hla
      case hfr => (simp only [List.cons_append, List.nil_append, putAll, Act.put, List.setIfInBounds_toArray, List.set_cons_zero, List.set_cons_succ, Nat.reduceAdd]; rfl)
      case hst =>
        refine ⟨?_, ?_, ?_, ?_, ?_, ?_, ?_, ?_, ?_, ?_, ?_, ?_, trivial⟩
        · intro us v hR hn ho K hK
          clear ho
          obtain ⟨b0, b1, b2, _, _, _⟩ := three ((hR.block w.heap.size (by omega) (by simp)).trans HBOX.out)
          rw [if_pos (by rfl)]
          go_simp
          refine hK _ _ _ (by simp only [Act.put, List.setIfInBounds_toArray, List.set_cons_zero, List.set_cons_succ, Nat.reduceAdd] <;> rfl) ?_ hR ⟨fun h => h, fun h => h, fun h => h, fun h => h, fun h => h, trivial⟩
          refine only_mk (v := v) ?_
          with_reducible rfl
        · intro us v hR hn ho K hK
          clear ho
          obtain ⟨b0, b1, b2, _, _, _⟩ := three ((hR.block w.heap.size (by omega) (by simp)).trans HBOX.out)
          rw [if_pos (by rfl)]
          go_simp
          refine hK _ _ _ (by simp only [Act.put, List.setIfInBounds_toArray, List.set_cons_zero, List.set_cons_succ, Nat.reduceAdd] <;> rfl) ?_ hR ⟨fun h => h, fun h => h, fun h => h, fun h => h, fun h => h, trivial⟩
          refine only_mk (v := v) ?_
          with_reducible rfl
        · intro us v hR hn ho K hK
          clear ho
          obtain ⟨b0, b1, b2, _, _, _⟩ := three ((hR.block w.heap.size (by omega) (by simp)).trans HBOX.out)
          rw [if_pos (by rfl)]
          go_simp
          refine hK _ _ _ (by simp only [Act.put, List.setIfInBounds_toArray, List.set_cons_zero, List.set_cons_succ, Nat.reduceAdd] <;> rfl) ?_ hR ⟨fun h => h, fun h => h, fun h => h, fun h => h, fun h => h, trivial⟩
          refine only_mk (v := v) ?_
          with_reducible rfl
        · intro us v hR hn ho K hK
          clear ho
          obtain ⟨b0, b1, b2, _, _, _⟩ := three ((hR.block w.heap.size (by omega) (by simp)).trans HBOX.out)
          rw [if_pos (by rfl)]
          go_simp
          obtain ⟨b, hb1, hb2, hb3⟩ := empty_cells v 9
          refine hK _ _ _ (by simp only [Act.put, List.setIfInBounds_toArray, List.set_cons_zero, List.set_cons_succ, Nat.reduceAdd] <;> rfl) ⟨b, by rw [hb1]; rfl, by rw [hb1]; exact hR.size, hb2, hb3⟩ (hR.alloc _) ⟨fun ⟨b, q1, q2, q3⟩ => ⟨b, q1, q2, (Below.heap_alloc _ _ _ (lt_of_block q3)).trans q3⟩, fun h => (Below.heap_alloc _ _ _ (lt_of_block h)).trans h, trivial⟩
        · intro us v hR hn ho K hK
          clear ho
          obtain ⟨b0, b1, b2, _, _, _⟩ := three ((hR.block w.heap.size (by omega) (by simp)).trans HBOX.out)
          rw [if_pos (by rfl)]
          go_simp
          refine hK _ _ _ (by simp only [Act.put, List.setIfInBounds_toArray, List.set_cons_zero, List.set_cons_succ, Nat.reduceAdd] <;> rfl) ?_ hR ⟨fun h => h, fun h => h, fun h => h, trivial⟩
          refine only_mk (v := v) ?_
          with_reducible rfl
        · intro us v hR hn ho K hK
          obtain ⟨n3, n4, -⟩ := hn
          have n4 : us 4 = _ := n4
          clear ho
          obtain ⟨b0, b1, b2, _, _, _⟩ := three ((hR.block w.heap.size (by omega) (by simp)).trans HBOX.out)
          obtain ⟨b3, n3, hb3, hvb, hbc⟩ := n3
          refine step_append_vec _ (by rfl) (.tmp 31) (.tmp 32) 28 28 (by rfl) 9 i0 _ 1 16 Tryz.underlying28 hi0 hz0 hz1 hz2 rfl [b3] (some ⟨b3, 0, none⟩) 0 0 [] _ xs.length (xs.map .string) n3 n4 hvb ((HV4.out.kept hR (fun k hk => by have := H.out.lt k (HK3.out k hk); have := H0.out.lt k (HK3.out k hk); simp; omega)).src Tryz.underlying28 (by simp [Value.oneCell'])) (by unfold maxLen; omega) (by omega) ?_
          intro v' w5 happ
          rw [Nat.zero_add, List.nil_append] at happ
          obtain ⟨F5, A5, c5, rfl, hv5, ht5⟩ := happ.all
          refine hK _ _ _ (by simp only [Act.put, List.setIfInBounds_toArray, List.set_cons_zero, List.set_cons_succ, Nat.reduceAdd, n4, n3, n4] <;> rfl) ⟨F5, A5, c5, rfl, hv5, fun k hk => ?_⟩ (kept_fresh hR ht5.kept (by simp; omega)) ⟨fun ⟨d, q1, q2, q3⟩ => ⟨d, q1, q2, (ht5.kept.block d (lt_of_block q3) (by simp only [List.mem_singleton]; exact b_ne hbc q3)).trans q3⟩, fun h => (ht5.kept.block _ (lt_of_block h) (by simp; omega)).trans h, trivial⟩
          · rcases ht5.new k hk with h9 | h9
            · simp at h9; omega
            · have := hR.size; omega
        · intro us v hR hn ho K hK
          clear ho
          obtain ⟨b0, b1, b2, _, _, _⟩ := three ((hR.block w.heap.size (by omega) (by simp)).trans HBOX.out)
          rw [if_pos (by rfl)]
          go_simp
          refine hK _ _ _ (by simp only [Act.put, List.setIfInBounds_toArray, List.set_cons_zero, List.set_cons_succ, Nat.reduceAdd] <;> rfl) ?_ hR ⟨fun h => h, fun h => h, fun h => h, trivial⟩
          refine only_mk (v := v) ?_
          with_reducible rfl
        · intro us v hR hn ho K hK
          obtain ⟨n6, -⟩ := hn
          have n6 : us 6 = _ := n6
          clear ho
          obtain ⟨b0, b1, b2, _, _, _⟩ := three ((hR.block w.heap.size (by omega) (by simp)).trans HBOX.out)
          rw [if_pos (by rfl)]
          go_simp
          refine hK _ _ _ (by simp only [Act.put, List.setIfInBounds_toArray, List.set_cons_zero, List.set_cons_succ, Nat.reduceAdd, n6] <;> rfl) ⟨v.heap.size, rfl, hR.size, heap_alloc_new v _⟩ (hR.alloc _) ⟨fun ⟨b, q1, q2, q3, q4⟩ => ⟨b, q1, q2, q3.alloc _, (Below.heap_alloc _ _ _ (lt_of_block q4)).trans q4⟩, fun ⟨F, A5, c5, q1, q2, q3⟩ => ⟨F, A5, c5, q1, q2.alloc _, q3⟩, fun h => (Below.heap_alloc _ _ _ (lt_of_block h)).trans h, trivial⟩
        · intro us v hR hn ho K hK
          obtain ⟨n5, n7, -⟩ := hn
          clear ho
          obtain ⟨b0, b1, b2, _, _, _⟩ := three ((hR.block w.heap.size (by omega) (by simp)).trans HBOX.out)
          obtain ⟨F5, A5, c5, n5, hv5, hF5⟩ := n5
          obtain ⟨b7, n7, hb7, hbc7⟩ := n7
          refine step_append_vec _ (by rfl) (.tmp 33) (.tmp 35) 28 28 (by rfl) 9 i0 _ 1 16 Tryz.underlying28 hi0 hz0 hz1 hz2 rfl F5 A5 xs.length c5 (xs.map .string) _ 1 [.string t] n5 n7 hv5 (src_new v Tryz.underlying28 [.string t] 1 1 1 rfl (by simp [Value.oneCell']) b7 hbc7) (by unfold maxLen; omega) (by omega) ?_
          intro v' w5 happ
          obtain ⟨F6, A6, c6, rfl, hv6, ht6⟩ := happ.all
          refine hK _ _ _ (by simp only [Act.put, List.setIfInBounds_toArray, List.set_cons_zero, List.set_cons_succ, Nat.reduceAdd, n5, n7] <;> rfl) ⟨F6, A6, c6, (by rw [HYL.out]; rfl), (by rw [HYL.out, ← HYS.out]; simpa using hv6), fun k hk => ?_⟩ (kept_fresh hR ht6.kept hF5) ⟨fun h => (ht6.kept.block _ (lt_of_block h) (fun hm => by have := hF5 _ hm; omega)).trans h, trivial⟩
          rcases ht6.new k hk with h9 | h9
          · exact hF5 k h9
          · have := hR.size; omega
        · intro us v hR hn ho K hK
          obtain ⟨n0, n1, n2, n8, -⟩ := hn
          have n0 : us 0 = _ := n0
          have n1 : us 1 = _ := n1
          have n2 : us 2 = _ := n2
          clear ho
          obtain ⟨b0, b1, b2, _, _, _⟩ := three ((hR.block w.heap.size (by omega) (by simp)).trans HBOX.out)
          obtain ⟨F6, A6, c6, n8, hv6, hF6⟩ := n8
          have hR4 : RefNet v G (.agg #[.int .i64 (s.n : Int), .int .i64 (s.m : Int), .slice W ws.length c]) s W c ws := H4.out.kept hR (fun k hk2 => by have := H0.out.lt k hk2; simp; omega)
          rw [if_pos (by rfl)]
          clear b0 b1 b2
          go_simp
          refine (ref_with hR4 a b hv6 HOK.out (by omega)).mono ?_
          rintro e v' ⟨y, W', c', ws', G', rfl, hy, hl', hG', hb'⟩
          dsimp only
          exact hK _ _ _ (by simp only [Act.put, List.setIfInBounds_toArray, List.set_cons_zero, List.set_cons_succ, Nat.reduceAdd, n0, n1, n2, n8] <;> rfl) ⟨W', c', ws', G', hy, hl', fun k hk => (hG' k hk).elim .inl (fun h => .inr (h.elim (hF6 k) fun h => Nat.le_trans hR.size h))⟩ (kept_fresh hR (Kept.of_below hb' []) (by simp)) ⟨fun h => (hb'.block _ (lt_of_block h)).trans h, trivial⟩
        · intro us v hR hn ho K hK
          obtain ⟨n9, ns, -⟩ := hn
          clear ho
          obtain ⟨b0, b1, b2, _, _, _⟩ := three ((hR.block w.heap.size (by omega) (by simp)).trans HBOX.out)
          obtain ⟨W', c', ws', G', hy, hl', hG'⟩ := n9
          have hres : v.heap[w.heap.size + 1]? = some (.cells #[.int .i64 0, .int .i64 0, .slice none 0 0] 33 (0, 0)) := ns
          have n9 := hy.v
          rw [if_pos (by rfl)]
          refine wp_store_all 33 (.tmp 8) (.tmp 37) (by rfl) (w.heap.size + 1) _ _ _ (by rfl) n9 hres rfl (by kernel_rfl) (by simp [Value.oneCell']) ?_
          intro v' hq hk
          rw [n9] at hy
          refine hK undef _ _ (by simp only [Act.put, List.setIfInBounds_toArray, List.set_cons_zero, List.set_cons_succ, Nat.reduceAdd, n9] <;> rfl) ⟨W', c', ws', G', _, hy.kept hk (fun k hk2 => ?_), hl', hG', hq⟩ (hR.trans hk) trivial
          rcases hG' k hk2 with h | h
          · have := H0.out.lt k h; simp; omega
          · simp; omega
        · intro us v hR hn ho K hK
          clear ho
          obtain ⟨b0, b1, b2, _, _, _⟩ := three ((hR.block w.heap.size (by omega) (by simp)).trans HBOX.out)
          rw [if_pos (by rfl)]
          go_simp
          refine hK _ _ _ (by simp only [Act.put, List.setIfInBounds_toArray, List.set_cons_zero, List.set_cons_succ, Nat.reduceAdd] <;> rfl) ?_ hR ⟨fun h => h, fun h => h, fun h => h, fun h => h, fun h => h, fun h => h, fun h => h, trivial⟩
          refine only_mk (v := v) ?_
          with_reducible rfl
      case hla =>
        intro us v hR hl
        obtain ⟨n0, n1, n2, n4, n6, n10, n11, -⟩ := need_last hl [0, 1, 2, 4, 6, 10, 11] (by kernel_rfl)
        have n0 : us 0 = _ := n0
        have n1 : us 1 = _ := n1
        have n2 : us 2 = _ := n2
        have n4 : us 4 = _ := n4
        have n6 : us 6 = _ := n6
        have n11 : us 11 = _ := n11
        obtain ⟨b0, b1, b2, _, _, _⟩ := three ((hR.block w.heap.size (by omega) (by simp)).trans HBOX.out)
        simp only [n0, n1, n2, n4, n6, n11]
        clear hl n0 n1 n2 n4 n6 n11
        obtain ⟨W', c', ws', G', x2, hy, hl', hG', hq⟩ := n10
        have HY := Lib.hid hy
        have HQ := Lib.hid hq
        have HRR := Lib.hid hR
        clear hy hq hR
        go_wp2_with fail
        refine ret_row2 Tryz.results43 (w.heap.size + 1) _ _ _ _ rfl HQ.out rfl Tryz.underlying33 rfl (by kernel_rfl) rfl ?_
        have hfin : PutSaid w G (s.send a b t) ws.length (s.sendOk a b) (.returned (.tuple #[.agg #[.int .i64 (s.n : Int), .int .i64 (s.m : Int), x2], .bool true])) v := by
          rw [HSF.out, HE.out]
          exact ⟨_, W', c', ws', G', rfl, HY.out, hl', fun k hk => (hG' k hk).imp id (fun h => by omega), HBW.out.trans (HRR.out.below HBW.out.size (by simp))⟩
        exact hfin
set_option maxRecDepth 100000 in
set_option maxHeartbeats 8000000 in
theorem ref_double (h : RefNet w G v s W c ws) (a b k : Int) (hl : ws.length ≤ 900) :
    Calls Tryz.prog 54 #[v, .int .i64 a, .int .i64 b, .int .i64 k] w (PutSaid w G (s.double a b k) ws.length (s.doubleOk a b k)) := by
  have hv := h.v
  subst hv
  have hbx := boxes w (.int .i64 (s.n : Int)) (.int .i64 (s.m : Int)) (.slice W ws.length c)
  obtain ⟨w2, hw2⟩ : ∃ w2, (w.alloc (.cells #[.int .i64 (s.n : Int), .int .i64 (s.m : Int), .slice W ws.length c] 33)).alloc (.cells #[.int .i64 0, .int .i64 0, .slice none 0 0] 33) = w2 := ⟨_, rfl⟩
  rw [hw2] at hbx
  have HBX := Lib.hid hbx
  have H0 := Lib.hid h
  have H := Lib.hid (h.after hbx.below)
  have HW2 := Lib.hid hw2
  have HD1 := Lib.hid (show ∀ x, s.isAt a b k = x → s.double a b k = (if x then s.send a b (s.look a b k) else s) ∧ s.doubleOk a b k = (x && s.sendOk a b) from fun x e => by unfold NS.double NS.doubleOk; rw [e]; exact ⟨rfl, rfl⟩)
  clear h hbx hw2
  go_enter Tryz.func54, Tryz.ntmps54
  go_wp2_with fail
  rw [HW2.out]
  obtain ⟨b0, b1, b2, _, _, _⟩ := three HBX.out.box
  go_wp2_with fail
  refine (ref_look H.out a b k (by omega)).mono ?_
  rintro e w4 ⟨rfl, hb4⟩
  have HB4 := Lib.hid hb4
  have H4 := Lib.hid (H.out.after hb4)
  have hbox4 := (hb4.block _ (lt_of_block HBX.out.box)).trans HBX.out.box
  have hres4 := (hb4.block _ (lt_of_block HBX.out.res)).trans HBX.out.res
  have HRES := Lib.hid hres4
  clear b0 b1 b2 hb4
  obtain ⟨b0, b1, b2, _, _, _⟩ := three hbox4
  obtain ⟨_, _, _, g0, g1, g2⟩ := three hres4
  have hbw : Below w.heap.size w w4 := HBX.out.below.trans (HB4.out.mono (by have := HBX.out.sz; omega))
  have HBW := Lib.hid hbw
  have hsz4 : w.heap.size + 2 ≤ w4.heap.size := by have := HB4.out.size; have := HBX.out.sz; omega
  have HBOX := Lib.hid hbox4
  clear hbox4 hres4 hbw
  cases hk : s.isAt a b k
  · have HK := Lib.hid (HD1.out _ hk)
    clear hk
    go_wp2_with fail
    have q := three_set HRES.out (.int .i64 (s.n : Int)) (.int .i64 (s.m : Int)) (.slice W ws.length c)
    refine ret_row2 Tryz.results54 (w.heap.size + 1) _ _ _ _ rfl q.1 rfl Tryz.underlying33 rfl (by kernel_rfl) rfl ?_
    have hfin : ∀ wf, Kept [w.heap.size + 1] w4 wf → PutSaid w G (s.double a b k) ws.length (s.doubleOk a b k) (.returned (.tuple #[.agg #[.int .i64 (s.n : Int), .int .i64 (s.m : Int), .slice W ws.length c], .bool false])) wf := by
      intro wf hkf
      rw [HK.out.1, HK.out.2]
      exact ⟨_, W, c, ws, G, rfl, H4.out.kept hkf (fun k hk2 => by have := H0.out.lt k hk2; simp; omega), by omega, fun k hk => .inl hk, HBW.out.trans (hkf.below HBW.out.size (by simp))⟩
    exact hfin _ q.2
  · have HK := Lib.hid (HD1.out _ hk)
    clear hk
    generalize s.look a b k = t at *
    go_wp2_with fail
    refine (ref_send H4.out a b t hl).mono ?_
    rintro e w5 ⟨y, W', c', ws', G', rfl, hy, hl', hG', hb5⟩
    have hyv := hy.v
    subst hyv
    have HY := Lib.hid hy
    have hres5 := (hb5.block _ (lt_of_block HRES.out)).trans HRES.out
    have HR5 := Lib.hid hres5
    have HB5 := Lib.hid hb5
    clear b0 b1 b2 g0 g1 g2 hy hb5
    obtain ⟨_, _, _, g0, g1, g2⟩ := three hres5
    obtain ⟨_, _, _, _, _, _⟩ := three hres5
    clear hres5
    have HBL := Lib.hid (show ∀ x, x = s.sendOk a b → x = s.sendOk a b from fun _ h => h)
    generalize hok : s.sendOk a b = ok at *
    have HOK := Lib.hid hok
    clear hok
    have HN := Lib.hid (show (s.send a b t).n = s.n ∧ (s.send a b t).m = s.m from by unfold NS.send; split <;> exact ⟨rfl, rfl⟩)
    go_wp2_with fail
    have q := three_set HR5.out (.int .i64 ((s.send a b t).n : Int)) (.int .i64 ((s.send a b t).m : Int)) (.slice W' ws'.length c')
    refine ret_row2 Tryz.results54 (w.heap.size + 1) _ _ _ _ rfl q.1 rfl Tryz.underlying33 rfl (by kernel_rfl) rfl ?_
    have hfin : ∀ wf, Kept [w.heap.size + 1] w5 wf → PutSaid w G (s.double a b k) ws.length (s.doubleOk a b k) (.returned (.tuple #[.agg #[.int .i64 ((s.send a b t).n : Int), .int .i64 ((s.send a b t).m : Int), .slice W' ws'.length c'], .bool ok])) wf := by
      intro wf hkf
      rw [HK.out.1, HK.out.2]
      have hb45 := HBW.out.trans (HB5.out.mono HBW.out.size)
      refine ⟨_, W', c', ws', G', rfl, HY.out.kept hkf (fun k hk2 => ?_), hl', fun k hk2 => (hG' k hk2).imp id (fun h => by omega), hb45.trans (hkf.below hb45.size (by simp))⟩
      rcases hG' k hk2 with h | h
      · have := H0.out.lt k h; simp; omega
      · simp; omega
    exact hfin _ q.2
end
end Go.Proofs.YtihhflajkohibaaGreatDoor.Net
/- Layer 8, the reference: a net as a value: Deliver. Conditions: the value's rows lie (RefNet). -/
namespace Go.Proofs.YtihhflajkohibaaGreatDoor.Net
set_option linter.unusedSimpArgs false
set_option linter.unusedVariables false
set_option maxRecDepth 100000
open Go.RowKit
/-- a row of texts from a place on: how it is taken, and what may be read of it -/
theorem slice_tail (g o n c j : Nat) (h : j + 1 ≤ n) (hn : n ≤ 1000) : ∃ A2 : Addr, (∀ wx, (Instr.slice 28 (.slice (some ⟨g, o, none⟩) n c) (some (.int .i64 ((j : Int) + 1))) none none).run Tryz.prog wx = .ok (.slice (some A2) (n - (j + 1)) (c - (j + 1))) wx) ∧
    ∀ w F cs, Vec w F 1 (some ⟨g, o, none⟩) n c cs → (∀ u ∈ cs, u.oneCell' = true) → Src Tryz.prog 1 28 (.slice (some A2) (n - (j + 1)) (c - (j + 1))) (n - (j + 1)) (cs.drop (j + 1)) w := by
  have hs : ∀ wx, (sizeOf (Tryz.prog.elem 28)).run Tryz.prog wx = .ok 1 wx := fun _ => by kernel_rfl
  have ht : ((j : Int) + 1).toNat = j + 1 := by omega
  have hrun : ∀ wx, (Instr.slice 28 (.slice (some ⟨g, o, none⟩) n c) (some (.int .i64 ((j : Int) + 1))) none none).run Tryz.prog wx = .ok (sliced (some ⟨g, o, none⟩) (j + 1) n c 1) wx := fun wx => by
    rw [run_slice_l (h0 := by omega) (h1 := by omega) (ht := by kernel_rfl), hs, ht]; rfl
  by_cases hc : c = j + 1
  · subst hc
    refine ⟨⟨g, o, none⟩, fun wx => by rw [hrun]; simp [sliced], fun w F cs hv h1 => ?_⟩
    have hle := hv.le
    have hd := hv.emptied (j + 1) (by omega) rfl
    rw [Nat.mul_one] at hd
    exact hd.src Tryz.underlying28 fun u hu => h1 u (List.mem_of_mem_drop hu)
  · refine ⟨⟨g, o + (j + 1), none⟩, fun wx => by rw [hrun]; simp [sliced, hc, Addr.add_mid], fun w F cs hv h1 => ?_⟩
    have hle := hv.le
    have hd := hv.dropped (j + 1) h (by omega) g o rfl
    rw [Nat.mul_one] at hd
    exact hd.src Tryz.underlying28 fun u hu => h1 u (List.mem_of_mem_drop hu)
theorem vec_take_src {w : World} {F : List Nat} {g o n c j : Nat} {cs : List Value} (h : Vec w F 1 (some ⟨g, o, none⟩) n c cs) (hj : j ≤ n) (h1 : ∀ u ∈ cs, u.oneCell' = true) : Src Tryz.prog 1 28 (.slice (some ⟨g, o, none⟩) j c) j (cs.take j) w := by
  have hl := h.len
  refine Src.ofSlice w Tryz.underlying28 _ j c (cs.take j) (by rw [List.length_take]; omega) (fun i u hi => ?_) fun u hu => h1 u (List.mem_of_mem_take hu)
  rw [List.getElem?_take] at hi
  split at hi
  · exact h.cells _ rfl i u hi
  · cases hi
def DelSaid (w : World) (G : List Nat) (s' : NS) (n : Nat) (t : ByteArray) (ok : Bool) (e : Ending) (w' : World) : Prop :=
  ∃ v' W' c' ws' G', e = .returned (.tuple #[v', .string t, .bool ok]) ∧ RefNet w' G' v' s' W' c' ws' ∧ ws'.length ≤ n + 1 ∧ (∀ k, k ∈ G' → k ∈ G ∨ w.heap.size ≤ k) ∧ Below w.heap.size w w'
section
variable {w w' : World} {G : List Nat} {v : Value} {s : NS} {W : Option Addr} {c : Nat} {ws : List Way}
set_option maxRecDepth 100000 in
set_option maxHeartbeats 8000000 in
theorem ref_deliver (h : RefNet w G v s W c ws) (a b k : Int) (hl : ws.length ≤ 900) :
    Calls Tryz.prog 50 #[v, .int .i64 a, .int .i64 b, .int .i64 k] w (DelSaid w G (s.deliver a b k) ws.length (s.look a b k) (s.isAt a b k)) := by
  obtain ⟨i0, hi0, hz0, hz1, hz2⟩ := info_parts str_info
  have hv := h.v
  subst hv
  have hbx := boxes w (.int .i64 (s.n : Int)) (.int .i64 (s.m : Int)) (.slice W ws.length c)
  obtain ⟨w2, hw2⟩ : ∃ w2, (w.alloc (.cells #[.int .i64 (s.n : Int), .int .i64 (s.m : Int), .slice W ws.length c] 33)).alloc (.cells #[.int .i64 0, .int .i64 0, .slice none 0 0] 33) = w2 := ⟨_, rfl⟩
  rw [hw2] at hbx
  have hcap := h.ok.room a b
  have hm := h.ok.m1000
  have HBX := Lib.hid hbx
  have H0 := Lib.hid h
  have H := Lib.hid (h.after hbx.below)
  have HW2 := Lib.hid hw2
  have HD1 := Lib.hid (show s.isAt a b k = false → s.deliver a b k = s ∧ s.look a b k = ⟨#[]⟩ from fun e => by unfold NS.deliver NS.look; rw [e]; exact ⟨rfl, rfl⟩)
  have HD2 := Lib.hid (show s.isAt a b k = true → s.deliver a b k = s.set a b ((s.f a b).eraseIdx k.toNat) ∧ (s.set a b ((s.f a b).eraseIdx k.toNat)).Ok ∧ 0 ≤ k ∧ k < ((s.f a b).length : Int) from fun e => by
    have h1 := h.ok.deliver a b k
    unfold NS.deliver at h1 ⊢
    rw [e, if_pos rfl] at h1
    rw [e, if_pos rfl]
    simp only [NS.isAt, decide_eq_true_eq] at e
    exact ⟨rfl, h1, e⟩)
  clear h hbx hw2
  go_enter Tryz.func50, Tryz.ntmps50
  go_wp2_with fail
  rw [HW2.out]
  obtain ⟨b0, b1, b2, _, _, _⟩ := three HBX.out.box
  go_wp2_with fail
  refine (ref_look H.out a b k (by omega)).mono ?_
  rintro e w3 ⟨rfl, hb3⟩
  have HB3 := Lib.hid hb3
  have H3 := Lib.hid (H.out.after hb3)
  have hbox3 := (hb3.block _ (lt_of_block HBX.out.box)).trans HBX.out.box
  have hres3 := (hb3.block _ (lt_of_block HBX.out.res)).trans HBX.out.res
  have HRES3 := Lib.hid hres3
  have HBOX3 := Lib.hid hbox3
  clear b0 b1 b2 hb3
  obtain ⟨b0, b1, b2, _, _, _⟩ := three hbox3
  obtain ⟨_, _, _, g0, g1, g2⟩ := three hres3
  have hbw : Below w.heap.size w w3 := HBX.out.below.trans (HB3.out.mono (by have := HBX.out.sz; omega))
  have HBW := Lib.hid hbw
  have hsz3 : w.heap.size + 2 ≤ w3.heap.size := by have := HB3.out.size; have := HBX.out.sz; omega
  clear hbox3 hres3 hbw
  cases hk : s.isAt a b k
  · have HK := Lib.hid (HD1.out hk)
    have HKK := Lib.hid hk
    clear hk
    go_wp2_with fail
    have q := three_set HRES3.out (.int .i64 (s.n : Int)) (.int .i64 (s.m : Int)) (.slice W ws.length c)
    refine ret_row3 Tryz.results50 (w.heap.size + 1) _ _ _ _ _ rfl q.1 rfl rfl Tryz.underlying33 rfl (by kernel_rfl) rfl ?_
    have hfin : ∀ wf, Kept [w.heap.size + 1] w3 wf → DelSaid w G (s.deliver a b k) ws.length (s.look a b k) (s.isAt a b k) (.returned (.tuple #[.agg #[.int .i64 (s.n : Int), .int .i64 (s.m : Int), .slice W ws.length c], .string ⟨#[]⟩, .bool false])) wf := by
      intro wf hkf
      rw [HK.out.1, HK.out.2, HKK.out]
      exact ⟨_, W, c, ws, G, rfl, H3.out.kept hkf (fun k hk2 => by have := H0.out.lt k hk2; simp; omega), by omega, fun k hk => .inl hk, HBW.out.trans (hkf.below HBW.out.size (by simp))⟩
    exact hfin _ q.2
  · obtain ⟨hd1, hd2, hk0, hk1⟩ := HD2.out hk
    obtain ⟨j, rfl⟩ := Int.eq_ofNat_of_zero_le hk0
    rw [Int.toNat_natCast] at hd1 hd2
    have HE := Lib.hid hd1
    have HOK := Lib.hid hd2
    have HKK := Lib.hid hk
    clear hk hd1 hd2
    go_wp2_with fail
    refine (ref_row H3.out a b (by omega)).mono ?_
    rintro e w4 ⟨A4, c4, K, rfl, hv4, hK4, hb4⟩
    have HV4 := Lib.hid (hv4.after hb4)
    have HK4 := Lib.hid hK4
    have H4 := Lib.hid (H3.out.after hb4)
    have hbox4 := (hb4.block _ (lt_of_block HBOX3.out)).trans HBOX3.out
    have hres4 := (hb4.block _ (lt_of_block HRES3.out)).trans HRES3.out
    have HRES := Lib.hid hres4
    have HBOX := Lib.hid hbox4
    have hbw : Below w.heap.size w w4 := HBW.out.trans (hb4.mono HBW.out.size)
    have hsz4 : w.heap.size + 2 ≤ w4.heap.size := Nat.le_trans hsz3 hb4.size
    have HBW := Lib.hid hbw
    clear b0 b1 b2 g0 g1 g2 hbw hv4 hK4 hb4 hres4
    obtain ⟨b0, b1, b2, _, _, _⟩ := three hbox4
    clear hbox4
    obtain ⟨t, ht⟩ : ∃ t, s.look a b (j : Int) = t := ⟨_, rfl⟩
    rw [ht]
    have HT := Lib.hid ht
    clear ht
    generalize hxs : s.f a b = xs at *
    have HXS := Lib.hid hxs
    clear hxs
    have hjx : j < xs.length := by omega
    obtain ⟨g, o, rfl, _, _, _⟩ := HV4.out.at (j := j) (u := .string xs[j]) (by rw [List.getElem?_map, List.getElem?_eq_getElem hjx]; rfl)
    obtain ⟨A2, hsl, hsrc⟩ := slice_tail g o xs.length c4 j hjx (by omega)
    have HSRC := Lib.hid hsrc
    have hjc : (j : Int) ≤ (c4 : Int) := by have := HV4.out.le; omega
    have hw1 : IntKind.i64.wrap ((j : Int) + 1) = (j : Int) + 1 := IntWalk.i64_in _ (by omega)
    have i0' : (0 : Int) ≤ (j : Int) := by omega
    obtain ⟨ys, hys⟩ : ∃ ys, xs.eraseIdx j = ys := ⟨_, rfl⟩
    rw [hys] at HE HOK
    have hmap : (xs.map Value.string).take j ++ (xs.map Value.string).drop (j + 1) = ys.map .string := by rw [← hys, List.eraseIdx_eq_take_drop_succ, List.map_append, List.map_take, List.map_drop]
    have HMAP := Lib.hid hmap
    have HYL := Lib.hid (show j + (xs.length - (j + 1)) = ys.length from by rw [← hys, List.length_eraseIdx_of_lt hjx]; omega)
    have HONE := Lib.hid (show ∀ u ∈ xs.map Value.string, u.oneCell' = true from by simp [Value.oneCell'])
    have hx1000 : xs.length ≤ 1000 := by omega
    have HSL := Lib.hid hsl
    clear hsrc hys hmap hsl
    go_wp2_with fail
    refine' wp_flow [only 0 (.agg #[.int .i64 (s.n : Int), .int .i64 (s.m : Int), .slice W ws.length c]), only 1 _, only 2 _, own 3 (fun y v => ∃ b, y = .slice (some ⟨b, 0, none⟩) 0 0 ∧ w4.heap.size ≤ b ∧ Vec v [b] 1 (some ⟨b, 0, none⟩) 0 0 []), only 4 _, only 5 _, only 6 (.slice (some ⟨g, o, none⟩) j c4), own 7 (fun y v => ∃ F A5 c5, y = .slice A5 j c5 ∧ Vec v F 1 A5 j c5 ((xs.map .string).take j) ∧ ∀ k, k ∈ F → w4.heap.size ≤ k), only 8 _, only 9 _, only 10 (.int .i64 ((j : Int) + 1)), only 11 (.slice (some A2) (xs.length - (j + 1)) (c4 - (j + 1))), own 12 (fun y v => ∃ F A5 c5, y = .slice A5 ys.length c5 ∧ Vec v F 1 A5 ys.length c5 (ys.map .string) ∧ ∀ k, k ∈ F → w4.heap.size ≤ k), own 13 (fun y v => ∃ W' c' ws' G', RefNet v G' y (s.set a b ys) W' c' ws' ∧ ws'.length ≤ ws.length + 1 ∧ ∀ k, k ∈ G' → k ∈ G ∨ w4.heap.size ≤ k), only 14 _, (fun us v => ∃ W' c' ws' G' x2, RefNet v G' (.agg #[.int .i64 (s.n : Int), .int .i64 (s.m : Int), x2]) (s.set a b ys) W' c' ws' ∧ ws'.length ≤ ws.length + 1 ∧ (∀ k, k ∈ G' → k ∈ G ∨ w4.heap.size ≤ k) ∧ v.heap[w.heap.size + 1]? = some (.cells #[.int .i64 (s.n : Int), .int .i64 (s.m : Int), x2] 33 (0, 0))), only 16 (.string t), only 17 _, (fun _ v => v.heap[w.heap.size + 1]? = some (.cells #[.int .i64 0, .int .i64 0, .slice none 0 0] 33 (0, 0)))] (fun v => Kept [w.heap.size + 1] w4 v) [[], [], [], [], [], [], [4, 5], [3, 6], [], [], [9], [8, 10], [7, 11], [0, 1, 2, 12], [], [13, 18], [14], []] [[], [], [], [], [], [], [], [3], [], [], [], [], [7], [12], [], [13, 18], [], []] [[], [], [], [], [], [], [], [], [], [], [], [], [], [], [], [], [], []] [[3, 7, 12, 18], [3, 7, 12, 18], [3, 7, 12, 18], [18], [3, 18], [3, 18], [3, 18], [18], [3, 7, 18], [3, 7, 18], [3, 7, 18], [3, 7, 18], [18], [18], [3, 7, 12, 13, 15, 18], [], [3, 7, 12, 13, 15, 18], [3, 7, 12, 13, 15, 18]] [3, 7, 12, 13, 15, 18] [0, 0, 0, 0, 0, 0, 48, 120, 0, 0, 512, 1792, 4088, 8191, 0, 16383, 16384, 0] _ (fun us => ?hfr) (by kernel_rfl) (by kernel_rfl) (by kernel_rfl) ⟨only_still _, only_still _, only_still _, trivial, only_still _, only_still _, only_still _, trivial, only_still _, only_still _, only_still _, only_still _, trivial, trivial, only_still _, trivial, only_still _, only_still _, trivial, trivial⟩ ((Kept.refl _ w4).drew) (by simp) (HRES.out) ?hst ?hla
    case hfr => (simp only [List.cons_append, List.nil_append, putAll, Act.put, List.setIfInBounds_toArray, List.set_cons_zero, List.set_cons_succ, Nat.reduceAdd]; rfl)
    case hst =>
      refine ⟨?_, ?_, ?_, ?_, ?_, ?_, ?_, ?_, ?_, ?_, ?_, ?_, ?_, ?_, ?_, ?_, ?_, ?_, trivial⟩
      · intro us v hR hn ho K hK
        clear ho
        obtain ⟨b0, b1, b2, _, _, _⟩ := three ((hR.block w.heap.size (by omega) (by simp)).trans HBOX.out)
        rw [if_pos (by rfl)]
        go_simp
        refine hK _ _ _ (by simp only [Act.put, List.setIfInBounds_toArray, List.set_cons_zero, List.set_cons_succ, Nat.reduceAdd] <;> rfl) ?_ hR ⟨fun h => h, fun h => h, fun h => h, fun h => h, trivial⟩
        refine only_mk (v := v) ?_
        with_reducible rfl
      · intro us v hR hn ho K hK
        clear ho
        obtain ⟨b0, b1, b2, _, _, _⟩ := three ((hR.block w.heap.size (by omega) (by simp)).trans HBOX.out)
        rw [if_pos (by rfl)]
        go_simp
        refine hK _ _ _ (by simp only [Act.put, List.setIfInBounds_toArray, List.set_cons_zero, List.set_cons_succ, Nat.reduceAdd] <;> rfl) ?_ hR ⟨fun h => h, fun h => h, fun h => h, fun h => h, trivial⟩
        refine only_mk (v := v) ?_
        with_reducible rfl
      · intro us v hR hn ho K hK
        clear ho
        obtain ⟨b0, b1, b2, _, _, _⟩ := three ((hR.block w.heap.size (by omega) (by simp)).trans HBOX.out)
        rw [if_pos (by rfl)]
        go_simp
        refine hK _ _ _ (by simp only [Act.put, List.setIfInBounds_toArray, List.set_cons_zero, List.set_cons_succ, Nat.reduceAdd] <;> rfl) ?_ hR ⟨fun h => h, fun h => h, fun h => h, fun h => h, trivial⟩
        refine only_mk (v := v) ?_
        with_reducible rfl
      · intro us v hR hn ho K hK
        clear ho
        obtain ⟨b0, b1, b2, _, _, _⟩ := three ((hR.block w.heap.size (by omega) (by simp)).trans HBOX.out)
        rw [if_pos (by rfl)]
        go_simp
        obtain ⟨b, hb1, hb2, hb3⟩ := empty_cells v 9
        refine hK _ _ _ (by simp only [Act.put, List.setIfInBounds_toArray, List.set_cons_zero, List.set_cons_succ, Nat.reduceAdd] <;> rfl) ⟨b, by rw [hb1]; rfl, by rw [hb1]; exact hR.size, hb2⟩ (hR.alloc _) ⟨fun h => (Below.heap_alloc _ _ _ (lt_of_block h)).trans h, trivial⟩
      · intro us v hR hn ho K hK
        clear ho
        obtain ⟨b0, b1, b2, _, _, _⟩ := three ((hR.block w.heap.size (by omega) (by simp)).trans HBOX.out)
        rw [if_pos (by rfl)]
        go_simp
        refine hK _ _ _ (by simp only [Act.put, List.setIfInBounds_toArray, List.set_cons_zero, List.set_cons_succ, Nat.reduceAdd] <;> rfl) ?_ hR ⟨fun h => h, fun h => h, trivial⟩
        refine only_mk (v := v) ?_
        with_reducible rfl
      · intro us v hR hn ho K hK
        clear ho
        obtain ⟨b0, b1, b2, _, _, _⟩ := three ((hR.block w.heap.size (by omega) (by simp)).trans HBOX.out)
        rw [if_pos (by rfl)]
        go_simp
        refine hK _ _ _ (by simp only [Act.put, List.setIfInBounds_toArray, List.set_cons_zero, List.set_cons_succ, Nat.reduceAdd] <;> rfl) ?_ hR ⟨fun h => h, fun h => h, trivial⟩
        refine only_mk (v := v) ?_
        with_reducible rfl
      · intro us v hR hn ho K hK
        obtain ⟨n4, n5, -⟩ := hn
        have n4 : us 4 = _ := n4
        have n5 : us 5 = _ := n5
        clear ho
        obtain ⟨b0, b1, b2, _, _, _⟩ := three ((hR.block w.heap.size (by omega) (by simp)).trans HBOX.out)
        rw [if_pos (by rfl)]
        go_simp
        refine hK _ _ _ (by simp only [Act.put, List.setIfInBounds_toArray, List.set_cons_zero, List.set_cons_succ, Nat.reduceAdd, n4, n5] <;> rfl) ?_ hR ⟨fun h => h, fun h => h, trivial⟩
        refine only_mk (v := v) ?_
        with_reducible rfl
      · intro us v hR hn ho K hK
        obtain ⟨n3, n6, -⟩ := hn
        have n6 : us 6 = _ := n6
        clear ho
        obtain ⟨b0, b1, b2, _, _, _⟩ := three ((hR.block w.heap.size (by omega) (by simp)).trans HBOX.out)
        obtain ⟨b3, n3, hb3, hvb⟩ := n3
        refine step_append_vec _ (by rfl) (.tmp 32) (.tmp 35) 28 28 (by rfl) 9 i0 _ 1 16 Tryz.underlying28 hi0 hz0 hz1 hz2 rfl [b3] (some ⟨b3, 0, none⟩) 0 0 [] _ j ((xs.map .string).take j) n3 n6 hvb (vec_take_src (HV4.out.kept hR (fun k hk => by have := H0.out.lt k (HK4.out k hk); simp; omega)) (by omega) HONE.out) (by unfold maxLen; omega) (by omega) ?_
        intro v' w5 happ
        rw [Nat.zero_add, List.nil_append] at happ
        obtain ⟨F5, A5, c5, rfl, hv5, ht5⟩ := happ.all
        refine hK _ _ _ (by simp only [Act.put, List.setIfInBounds_toArray, List.set_cons_zero, List.set_cons_succ, Nat.reduceAdd, n6, n3, n6] <;> rfl) ⟨F5, A5, c5, rfl, hv5, fun k hk => ?_⟩ (kept_fresh hR ht5.kept (by simp; omega)) ⟨fun h => (ht5.kept.block _ (lt_of_block h) (by simp; omega)).trans h, trivial⟩
        rcases ht5.new k hk with h9 | h9
        · simp at h9; omega
        · have := hR.size; omega
      · intro us v hR hn ho K hK
        clear ho
        obtain ⟨b0, b1, b2, _, _, _⟩ := three ((hR.block w.heap.size (by omega) (by simp)).trans HBOX.out)
        rw [if_pos (by rfl)]
        go_simp
        refine hK _ _ _ (by simp only [Act.put, List.setIfInBounds_toArray, List.set_cons_zero, List.set_cons_succ, Nat.reduceAdd] <;> rfl) ?_ hR ⟨fun h => h, fun h => h, fun h => h, trivial⟩
        refine only_mk (v := v) ?_
        with_reducible rfl
      · intro us v hR hn ho K hK
        clear ho
        obtain ⟨b0, b1, b2, _, _, _⟩ := three ((hR.block w.heap.size (by omega) (by simp)).trans HBOX.out)
        rw [if_pos (by rfl)]
        go_simp
        refine hK _ _ _ (by simp only [Act.put, List.setIfInBounds_toArray, List.set_cons_zero, List.set_cons_succ, Nat.reduceAdd] <;> rfl) ?_ hR ⟨fun h => h, fun h => h, fun h => h, trivial⟩
        refine only_mk (v := v) ?_
        with_reducible rfl
      · intro us v hR hn ho K hK
        obtain ⟨n9, -⟩ := hn
        have n9 : us 9 = _ := n9
        clear ho
        obtain ⟨b0, b1, b2, _, _, _⟩ := three ((hR.block w.heap.size (by omega) (by simp)).trans HBOX.out)
        rw [if_pos (by rfl)]
        go_simp
        refine hK _ _ _ (by simp only [Act.put, List.setIfInBounds_toArray, List.set_cons_zero, List.set_cons_succ, Nat.reduceAdd, n9] <;> rfl) ?_ hR ⟨fun h => h, fun h => h, fun h => h, trivial⟩
        refine only_mk (v := v) ?_
        with_reducible rfl
      · intro us v hR hn ho K hK
        obtain ⟨n8, n10, -⟩ := hn
        have n8 : us 8 = _ := n8
        have n10 : us 10 = _ := n10
        clear ho
        obtain ⟨b0, b1, b2, _, _, _⟩ := three ((hR.block w.heap.size (by omega) (by simp)).trans HBOX.out)
        have hsl2 := HSL.out
        rw [if_pos (by rfl)]
        go_simp
        refine hK _ _ _ (by simp only [Act.put, List.setIfInBounds_toArray, List.set_cons_zero, List.set_cons_succ, Nat.reduceAdd, n8, n10] <;> rfl) ?_ hR ⟨fun h => h, fun h => h, fun h => h, trivial⟩
        refine only_mk (v := v) ?_
        with_reducible rfl
      · intro us v hR hn ho K hK
        obtain ⟨n7, n11, -⟩ := hn
        have n11 : us 11 = _ := n11
        clear ho
        obtain ⟨b0, b1, b2, _, _, _⟩ := three ((hR.block w.heap.size (by omega) (by simp)).trans HBOX.out)
        obtain ⟨F5, A5, c5, n7, hv5, hF5⟩ := n7
        refine step_append_vec _ (by rfl) (.tmp 36) (.tmp 40) 28 28 (by rfl) 9 i0 _ 1 16 Tryz.underlying28 hi0 hz0 hz1 hz2 rfl F5 A5 j c5 ((xs.map .string).take j) _ (xs.length - (j + 1)) ((xs.map .string).drop (j + 1)) n7 n11 hv5 (HSRC.out _ _ _ (HV4.out.kept hR (fun k hk => by have := H0.out.lt k (HK4.out k hk); simp; omega)) HONE.out) (by unfold maxLen; omega) (by omega) ?_
        intro v' w5 happ
        rw [HMAP.out, HYL.out] at happ
        obtain ⟨F6, A6, c6, rfl, hv6, ht6⟩ := happ.all
        refine hK _ _ _ (by simp only [Act.put, List.setIfInBounds_toArray, List.set_cons_zero, List.set_cons_succ, Nat.reduceAdd, n11, n7, n11] <;> rfl) ⟨F6, A6, c6, rfl, hv6, fun k hk => ?_⟩ (kept_fresh hR ht6.kept hF5) ⟨fun h => (ht6.kept.block _ (lt_of_block h) (fun hm => by have := hF5 _ hm; omega)).trans h, trivial⟩
        rcases ht6.new k hk with h9 | h9
        · exact hF5 k h9
        · have := hR.size; omega
      · intro us v hR hn ho K hK
        obtain ⟨n0, n1, n2, n12, -⟩ := hn
        have n0 : us 0 = _ := n0
        have n1 : us 1 = _ := n1
        have n2 : us 2 = _ := n2
        clear ho
        obtain ⟨b0, b1, b2, _, _, _⟩ := three ((hR.block w.heap.size (by omega) (by simp)).trans HBOX.out)
        obtain ⟨F6, A6, c6, n12, hv6, hF6⟩ := n12
        have hR4 : RefNet v G (.agg #[.int .i64 (s.n : Int), .int .i64 (s.m : Int), .slice W ws.length c]) s W c ws := H4.out.kept hR (fun k hk2 => by have := H0.out.lt k hk2; simp; omega)
        rw [if_pos (by rfl)]
        clear b0 b1 b2
        go_simp
        refine (ref_with hR4 a b hv6 HOK.out (by omega)).mono ?_
        rintro e v' ⟨y, W', c', ws', G', rfl, hy, hl', hG', hb'⟩
        dsimp only
        exact hK _ _ _ (by simp only [Act.put, List.setIfInBounds_toArray, List.set_cons_zero, List.set_cons_succ, Nat.reduceAdd, n0, n1, n2, n12] <;> rfl) ⟨W', c', ws', G', hy, hl', fun k hk => (hG' k hk).elim .inl (fun h => .inr (h.elim (hF6 k) fun h => Nat.le_trans hR.size h))⟩ (kept_fresh hR (Kept.of_below hb' []) (by simp)) ⟨fun h => (hb'.block _ (lt_of_block h)).trans h, trivial⟩
      · intro us v hR hn ho K hK
        clear ho
        obtain ⟨b0, b1, b2, _, _, _⟩ := three ((hR.block w.heap.size (by omega) (by simp)).trans HBOX.out)
        rw [if_pos (by rfl)]
        go_simp
        refine hK _ _ _ (by simp only [Act.put, List.setIfInBounds_toArray, List.set_cons_zero, List.set_cons_succ, Nat.reduceAdd] <;> rfl) ?_ hR ⟨fun h => h, fun h => h, fun h => h, fun h => h, fun h => h, fun h => h, trivial⟩
        refine only_mk (v := v) ?_
        with_reducible rfl
      · intro us v hR hn ho K hK
        obtain ⟨n13, ns, -⟩ := hn
        clear ho
        obtain ⟨b0, b1, b2, _, _, _⟩ := three ((hR.block w.heap.size (by omega) (by simp)).trans HBOX.out)
        obtain ⟨W', c', ws', G', hy, hl', hG'⟩ := n13
        have hres : v.heap[w.heap.size + 1]? = some (.cells #[.int .i64 0, .int .i64 0, .slice none 0 0] 33 (0, 0)) := ns
        have n13 := hy.v
        rw [if_pos (by rfl)]
        refine wp_store_all 33 (.tmp 8) (.tmp 42) (by rfl) (w.heap.size + 1) _ _ _ (by rfl) n13 hres rfl (by kernel_rfl) (by simp [Value.oneCell']) ?_
        intro v' hq hk
        rw [n13] at hy
        refine hK undef _ _ (by simp only [Act.put, List.setIfInBounds_toArray, List.set_cons_zero, List.set_cons_succ, Nat.reduceAdd, n13] <;> rfl) ⟨W', c', ws', G', _, hy.kept hk (fun k hk2 => ?_), hl', hG', hq⟩ (hR.trans hk) trivial
        rcases hG' k hk2 with h | h
        · have := H0.out.lt k h; simp; omega
        · simp; omega
      · intro us v hR hn ho K hK
        obtain ⟨n14, -⟩ := hn
        have n14 : us 14 = _ := n14
        clear ho
        obtain ⟨b0, b1, b2, _, _, _⟩ := three ((hR.block w.heap.size (by omega) (by simp)).trans HBOX.out)
        rw [if_pos (by rfl)]
        go_simp
        refine hK _ _ _ (by simp only [Act.put, List.setIfInBounds_toArray, List.set_cons_zero, List.set_cons_succ, Nat.reduceAdd, n14] <;> rfl) ?_ hR ⟨fun h => h, fun h => h, fun h => h, fun h => h, fun h => h, fun h => h, trivial⟩
        refine only_mk (v := v) ?_
        with_reducible rfl
      · intro us v hR hn ho K hK
        clear ho
        obtain ⟨b0, b1, b2, _, _, _⟩ := three ((hR.block w.heap.size (by omega) (by simp)).trans HBOX.out)
        rw [if_pos (by rfl)]
        go_simp
        refine hK _ _ _ (by simp only [Act.put, List.setIfInBounds_toArray, List.set_cons_zero, List.set_cons_succ, Nat.reduceAdd] <;> rfl) ?_ hR ⟨fun h => h, fun h => h, fun h => h, fun h => h, fun h => h, fun h => h, trivial⟩
        refine only_mk (v := v) ?_
        with_reducible rfl
    case hla =>
      intro us v hR hl
      obtain ⟨n0, n1, n2, n4, n5, n6, n8, n9, n10, n11, n14, n15, n16, n17, -⟩ := need_last hl [0, 1, 2, 4, 5, 6, 8, 9, 10, 11, 14, 15, 16, 17] (by kernel_rfl)
      have n0 : us 0 = _ := n0
      have n1 : us 1 = _ := n1
      have n2 : us 2 = _ := n2
      have n4 : us 4 = _ := n4
      have n5 : us 5 = _ := n5
      have n6 : us 6 = _ := n6
      have n8 : us 8 = _ := n8
      have n9 : us 9 = _ := n9
      have n10 : us 10 = _ := n10
      have n11 : us 11 = _ := n11
      have n14 : us 14 = _ := n14
      have n16 : us 16 = _ := n16
      have n17 : us 17 = _ := n17
      obtain ⟨b0, b1, b2, _, _, _⟩ := three ((hR.block w.heap.size (by omega) (by simp)).trans HBOX.out)
      simp only [n0, n1, n2, n4, n5, n6, n8, n9, n10, n11, n14, n16, n17]
      clear hl n0 n1 n2 n4 n5 n6 n8 n9 n10 n11 n14 n16 n17
      obtain ⟨W', c', ws', G', x2, hy, hl', hG', hq⟩ := n15
      have HY := Lib.hid hy
      have HQ := Lib.hid hq
      have HRR := Lib.hid hR
      clear hy hq hR
      go_wp2_with fail
      refine ret_row3 Tryz.results50 (w.heap.size + 1) _ _ _ _ _ rfl HQ.out rfl rfl Tryz.underlying33 rfl (by kernel_rfl) rfl ?_
      have hfin : DelSaid w G (s.deliver a b (j : Int)) ws.length (s.look a b (j : Int)) (s.isAt a b (j : Int)) (.returned (.tuple #[.agg #[.int .i64 (s.n : Int), .int .i64 (s.m : Int), x2], .string t, .bool true])) v := by
        rw [HKK.out, HE.out, HT.out]
        exact ⟨_, W', c', ws', G', rfl, HY.out, hl', fun k hk => (hG' k hk).imp id (fun h => by omega), HBW.out.trans (HRR.out.below HBW.out.size (by simp))⟩
      exact hfin
end
end Go.Proofs.YtihhflajkohibaaGreatDoor.Net
/- Layer 8, the reference: a net as a value: Turned, Flip. Conditions: the value's rows lie (RefNet). -/
namespace Go.Proofs.YtihhflajkohibaaGreatDoor.Net
set_option linter.unusedSimpArgs false
set_option linter.unusedVariables false
set_option maxRecDepth 100000
open Go.RowKit
set_option maxHeartbeats 4000000 in
theorem ref_turned (t : ByteArray) (bit : Int) (hb1 : -9223372036854775808 ≤ bit) (hb2 : bit ≤ 9223372036854775807) (hz : t.size ≠ 0) (hbig : t.size ≤ 1000000) (w : World) :
    Calls Tryz.prog 80 #[.string t, .int .i64 bit] w fun e w' => e = .returned (.string (NS.turn t bit)) ∧ Below w.heap.size w w' := by
  have hpos : 0 < t.size := by omega
  have hpl : ∀ m : Int, m = max (max bit (IntKind.i64.wrap (-bit))) 0 → NS.place t.size bit = m.toNat % (8 * t.size) := fun m hm => by unfold NS.place; rw [hm]
  have HPL := Lib.hid hpl
  have HB := Lib.hid (And.intro hb1 hb2)
  clear hpl hb1 hb2
  go_enter Tryz.func80, Tryz.ntmps80
  go_upto_if 7 with fail
  go_cut [1] (fun s1 wx => (∃ m : Int, s1 = .int .i64 m ∧ max m 0 = max (max bit (IntKind.i64.wrap (-bit))) 0) ∧ wx = w)
  case first =>
    have hbb := HB.out
    by_cases h0 : bit < 0
    · have d0 : decide (bit < 0) = true := by simpa using h0
      have hw : max (IntKind.i64.wrap (-bit)) 0 = max (max bit (IntKind.i64.wrap (-bit))) 0 := by omega
      have HWW := Lib.hid hw
      clear hw
      go_wp2_with fail
      go_meet
      exact ⟨⟨_, rfl, by first | exact HWW.out | (rw [← IntWalk.i64_left]; exact HWW.out) | (have := HWW.out; simpa [IntWalk.i64_left] using this)⟩, rfl⟩
    · have d0 : decide (bit < 0) = false := by simpa using h0
      have hw : max bit 0 = max (max bit (IntKind.i64.wrap (-bit))) 0 := by
        rw [IntKind.wrap_i64]; omega
      have HWW := Lib.hid hw
      clear hw
      go_wp2_with fail
      go_meet
      exact ⟨⟨_, rfl, HWW.out⟩, rfl⟩
  case rest =>
    obtain ⟨⟨m0, rfl, hm0⟩, rfl⟩ := hcut
    obtain ⟨m, hm⟩ : ∃ m, max (max bit (IntKind.i64.wrap (-bit))) 0 = m := ⟨_, rfl⟩
    have hm1 : 0 ≤ m := by omega
    have hmx : ∀ (ts : Array TypeId) (t : TypeId) (v : World), (Builtin.max_ ts t #[.int .i64 m0, .int .i64 0]).run Tryz.prog v = .ok (.int .i64 m) v := fun ts t v => by
      rw [← hm, ← hm0]
      simp only [Builtin.max_, Builtin.max2, List.foldlM_cons, List.foldlM_nil]
      simp
      omega
    have hpl := HPL.out m hm.symm
    have hrem : (m : Int) % (8 * (t.size : Int)) = ((NS.place t.size bit : Nat) : Int) := by
      rw [hpl, Int.natCast_emod, Int.toNat_of_nonneg hm1]; simp
    clear hm hm0
    have hnl : NS.place t.size bit < 8 * t.size := by rw [hpl]; exact Nat.mod_lt _ (by omega)
    have htu := turn_data t bit
    have HTU := Lib.hid htu
    clear htu
    generalize NS.place t.size bit = n at *
    obtain ⟨cap, w2, hcv, hb2, hby2, hs2⟩ := to_bytes t wc
    have HB2 := Lib.hid hb2
    have HBY := Lib.hid hby2
    have HS2 := Lib.hid hs2
    clear hb2 hby2 hs2
    have hn8 : n / 8 < t.size := by omega
    have hdl : n / 8 < t.data.toList.length := by simpa using hn8
    have g0 : (0 : Int) ≤ (n : Int) := by omega
    have hm8 : n % 8 < 8 := Nat.mod_lt _ (by omega)
    obtain ⟨i, hi⟩ : ∃ i, n / 8 = i := ⟨_, rfl⟩
    obtain ⟨j, hj⟩ : ∃ j, n % 8 = j := ⟨_, rfl⟩
    have e2 : IntKind.i64.wrap ((n : Int) / 8) = (i : Int) := by rw [IntWalk.i64_in _ (by omega)]; omega
    have e3 : (n : Int) / 8 = (i : Int) := by omega
    have e6 : ((n : Int)).tmod 8 = (j : Int) := by rw [Int.tmod_eq_emod_of_nonneg (by omega)]; omega
    have e7 : (n : Int) % 8 = (j : Int) := by omega
    have g1 : (i : Int) < (t.size : Int) := by omega
    have g2 : (0 : Int) ≤ (i : Int) := by omega
    have g3 : (0 : Int) ≤ (j : Int) := by omega
    have g4 : (j : Int) ≤ 8 := by omega
    have hwj : IntKind.u64.wrap (j : Int) = (j : Int) := by rw [IntKind.wrap_u64]; omega
    clear hpl
    rw [hj] at hm8 HTU
    rw [hi] at hdl hn8 HTU
    obtain ⟨old, hold⟩ : ∃ old, t.data.toList.getD i 0 = old := ⟨_, rfl⟩
    rw [hold] at HTU
    have q := (HBY.out i hdl).1
    rw [hold] at q
    have q2 := (HBY.out i hdl).2
    clear hi hj hold
    have hp : (2 : Int) ^ j % 256 = (2 : Int) ^ j := by
      have : j = 0 ∨ j = 1 ∨ j = 2 ∨ j = 3 ∨ j = 4 ∨ j = 5 ∨ j = 6 ∨ j = 7 := by omega
      rcases this with rfl | rfl | rfl | rfl | rfl | rfl | rfl | rfl <;> decide
    have hbs := HBY.out.set hdl (old ^^^ (1 <<< UInt8.ofNat j))
    rw [xor_nat old j hm8, ← xor_val old j hm8, ← hp] at hbs
    have hcv2 := of_bytes hbs t.size cap (by simp)
    have htt : (⟨(t.data.toList.set i (old ^^^ (1 <<< UInt8.ofNat j))).toArray⟩ : ByteArray) = NS.turn t bit := by
      refine ByteArray.ext (Array.ext' ?_)
      rw [HTU.out]
    rw [htt] at hcv2
    have HBL := Lib.hid (HB2.out.setCell (p := ⟨wc.heap.size, i, none⟩) (Nat.le_refl _) (.int .u8 (bits .xor .u8 (old.toNat : Int) ((2 : Int) ^ j % 256))))
    clear hp hbs htt
    go_wp2_with fail
    go_ret
    exact ⟨rfl, HBL.out⟩
theorem vec_free {w : World} {F : List Nat} {g o n c j : Nat} {cs : List Value} (h : Vec w F 1 (some ⟨g, o, none⟩) n c cs) (hj : j < n) : w.frozen? ⟨g, o + j, none⟩ = false := by
  rcases h.place with ⟨e, _⟩ | ⟨g', o', e, _, _, _, ht⟩
  · cases e
  · injection e with e
    injection e with e1 e2
    subst e1; subst e2
    have := h.le
    exact (ht j (by omega)).2
section
variable {w w' : World} {G : List Nat} {v : Value} {s : NS} {W : Option Addr} {c : Nat} {ws : List Way}
set_option maxRecDepth 100000 in
set_option maxHeartbeats 8000000 in
theorem ref_flip (h : RefNet w G v s W c ws) (a b k bit : Int) (hb1 : -9223372036854775808 ≤ bit) (hb2 : bit ≤ 9223372036854775807) (hbig : (s.look a b k).size ≤ 1000000) (hl : ws.length ≤ 900) :
    Calls Tryz.prog 56 #[v, .int .i64 a, .int .i64 b, .int .i64 k, .int .i64 bit] w (PutSaid w G (s.flip a b k bit) ws.length (s.flipOk a b k)) := by
  obtain ⟨i0, hi0, hz0, hz1, hz2⟩ := info_parts str_info
  have hv := h.v
  subst hv
  have hbx := boxes w (.int .i64 (s.n : Int)) (.int .i64 (s.m : Int)) (.slice W ws.length c)
  obtain ⟨w2, hw2⟩ : ∃ w2, (w.alloc (.cells #[.int .i64 (s.n : Int), .int .i64 (s.m : Int), .slice W ws.length c] 33)).alloc (.cells #[.int .i64 0, .int .i64 0, .slice none 0 0] 33) = w2 := ⟨_, rfl⟩
  rw [hw2] at hbx
  have hcap := h.ok.room a b
  have hm := h.ok.m1000
  have HBT := Lib.hid (And.intro hb1 hb2)
  have HBX := Lib.hid hbx
  have H0 := Lib.hid h
  have H := Lib.hid (h.after hbx.below)
  have HW2 := Lib.hid hw2
  have HF1 := Lib.hid (show s.flipOk a b k = false → s.flip a b k bit = s from fun e => by unfold NS.flip; rw [e]; rfl)
  have HF2 := Lib.hid (show s.flipOk a b k = true → s.flip a b k bit = s.set a b ((s.f a b).set k.toNat (NS.turn (s.look a b k) bit)) ∧ (s.set a b ((s.f a b).set k.toNat (NS.turn (s.look a b k) bit))).Ok from fun e => by
    have h1 := h.ok.flip a b k bit
    unfold NS.flip at h1 ⊢
    rw [e, if_pos rfl] at h1
    rw [e, if_pos rfl]
    exact ⟨rfl, h1⟩)
  have HFO := Lib.hid (show s.flipOk a b k = (s.isAt a b k && !((s.look a b k).size == 0)) from rfl)
  have HIA := Lib.hid (show s.isAt a b k = true → 0 ≤ k ∧ k < ((s.f a b).length : Int) from fun e => by simpa only [NS.isAt, decide_eq_true_eq] using e)
  clear h hbx hw2 hb1 hb2
  go_enter Tryz.func56, Tryz.ntmps56
  go_wp2_with fail
  rw [HW2.out]
  obtain ⟨b0, b1, b2, _, _, _⟩ := three HBX.out.box
  go_wp2_with fail
  refine (ref_look H.out a b k (by omega)).mono ?_
  rintro e w3 ⟨rfl, hb3⟩
  have HB3 := Lib.hid hb3
  have H3 := Lib.hid (H.out.after hb3)
  have hbox3 := (hb3.block _ (lt_of_block HBX.out.box)).trans HBX.out.box
  have hres3 := (hb3.block _ (lt_of_block HBX.out.res)).trans HBX.out.res
  have HRES3 := Lib.hid hres3
  have HBOX3 := Lib.hid hbox3
  clear b0 b1 b2 hb3
  obtain ⟨b0, b1, b2, _, _, _⟩ := three hbox3
  obtain ⟨_, _, _, g0, g1, g2⟩ := three hres3
  have hbw : Below w.heap.size w w3 := HBX.out.below.trans (HB3.out.mono (by have := HBX.out.sz; omega))
  have HBW := Lib.hid hbw
  have hsz3 : w.heap.size + 2 ≤ w3.heap.size := by have := HB3.out.size; have := HBX.out.sz; omega
  clear hbox3 hres3 hbw
  generalize ht : s.look a b k = t at *
  have HT := Lib.hid ht
  have hsz := empty_size t
  clear ht
  have hfin : s.flipOk a b k = false → ∀ wf, Kept [w.heap.size + 1] w3 wf → PutSaid w G (s.flip a b k bit) ws.length (s.flipOk a b k) (.returned (.tuple #[.agg #[.int .i64 (s.n : Int), .int .i64 (s.m : Int), .slice W ws.length c], .bool false])) wf := by
    intro e wf hkf
    rw [e, HF1.out e]
    exact ⟨_, W, c, ws, G, rfl, H3.out.kept hkf (fun k hk2 => by have := H0.out.lt k hk2; simp; omega), by omega, fun k hk => .inl hk, HBW.out.trans (hkf.below HBW.out.size (by simp))⟩
  have HFIN := Lib.hid hfin
  clear hfin
  cases hk : s.isAt a b k
  · have HE := Lib.hid (show s.flipOk a b k = false from by rw [HFO.out, hk]; rfl)
    clear hk hsz
    go_wp2_with fail
    have q := three_set HRES3.out (.int .i64 (s.n : Int)) (.int .i64 (s.m : Int)) (.slice W ws.length c)
    refine ret_row2 Tryz.results56 (w.heap.size + 1) _ _ _ _ rfl q.1 rfl Tryz.underlying33 rfl (by kernel_rfl) rfl ?_
    exact HFIN.out HE.out _ q.2
  · obtain ⟨hk0, hk1⟩ := HIA.out hk
    by_cases hz : t.size = 0
    · have HE := Lib.hid (show s.flipOk a b k = false from by rw [HFO.out, hk, hz]; rfl)
      rw [decide_eq_true hz] at hsz
      clear hk hz
      go_wp2_with fail
      have q := three_set HRES3.out (.int .i64 (s.n : Int)) (.int .i64 (s.m : Int)) (.slice W ws.length c)
      refine ret_row2 Tryz.results56 (w.heap.size + 1) _ _ _ _ rfl q.1 rfl Tryz.underlying33 rfl (by kernel_rfl) rfl ?_
      exact HFIN.out HE.out _ q.2
    · have hfo : s.flipOk a b k = true := by rw [HFO.out, hk]; simpa using hz
      obtain ⟨j, rfl⟩ := Int.eq_ofNat_of_zero_le hk0
      obtain ⟨hf1, hf2⟩ := HF2.out hfo
      rw [Int.toNat_natCast] at hf1 hf2
      rw [decide_eq_false hz] at hsz
      have HE := Lib.hid (And.intro hfo hf1)
      have HOK := Lib.hid hf2
      have hltb : w.heap.size < w3.heap.size := by omega
      have hb3' : Below w3.heap.size w3 (w3.alloc (.cells #[] 9)) := (Below.refl _ _).alloc (Nat.le_refl _) _
      have HVE := Lib.hid (vec_empty w3 9 1 w3.heap.size rfl)
      have HB3' := Lib.hid hb3'
      have H3' := Lib.hid (H3.out.after hb3')
      generalize hxs : s.f a b = xs at *
      have HXS := Lib.hid hxs
      have hjx : j < xs.length := by omega
      have hx1000 : xs.length ≤ 1000 := by omega
      clear hk hfo hf1 hf2 hb3' hxs
      go_wp2_with fail
      refine (ref_row H3'.out a b (by omega)).mono ?_
      rintro e w4 ⟨A4, c4, K, rfl, hv4, hK4, hb4⟩
      rw [HXS.out] at hv4 ⊢
      have HSRC := Lib.hid ((hv4.after hb4).src (P := Tryz.prog) Tryz.underlying28 (by simp [Value.oneCell']))
      have HV0 := Lib.hid (HVE.out.after hb4)
      have HB4 := Lib.hid (HB3'.out.trans (hb4.mono HB3'.out.size))
      clear hv4 hK4 hb4 b0 b1 b2 g0 g1 g2
      go_wp2_with (at_builtin; (refine wpList_append_vec _ (by rfl) _ _ _ _ (by rfl) 9 i0 _ 1 16 Tryz.underlying28 hi0 hz0 hz1 hz2 rfl [w3.heap.size] (some ⟨w3.heap.size, 0, none⟩) 0 0 [] (.slice A4 xs.length c4) xs.length (xs.map .string) (by rfl) (by rfl) (by exact HV0.out) (by exact HSRC.out) (by unfold maxLen; omega) (by omega) ?_; intro v5 w5 happ; rw [Nat.zero_add, List.nil_append] at happ; obtain ⟨F5, A5, c5, rfl, hv5, ht5⟩ := happ.all))
      have hF5 : ∀ k, k ∈ F5 → w3.heap.size ≤ k := fun k hk => (ht5.new k hk).elim (fun h => by simp at h; omega) (fun h => Nat.le_trans HB4.out.size h)
      have hk5 : Kept [] w3 w5 := kept_fresh (Kept.of_below HB4.out []) ht5.kept (by simp)
      refine (ref_turned t bit HBT.out.1 HBT.out.2 hz hbig _).mono ?_
      rintro e w6 ⟨rfl, hb6⟩
      have hv6 := hv5.after hb6
      have hk6 : Kept [] w3 w6 := hk5.trans (Kept.of_below hb6 [])
      obtain ⟨g5, o5, rfl, rfl, hg5, hc5⟩ := hv6.at (j := j) (u := .string xs[j]) (by rw [List.getElem?_map, List.getElem?_eq_getElem hjx]; rfl)
      have hfr5 := vec_free hv6 hjx
      have hg53 : w3.heap.size ≤ g5 := hF5 g5 (by simp)
      obtain ⟨t2, ht2⟩ : ∃ t2, NS.turn t bit = t2 := ⟨_, rfl⟩
      rw [ht2] at HE HOK ⊢
      have hv7 := vec_set hv6 hjx (.string t2)
      have hk7 : Kept [] w3 (w6.setCell ⟨g5, o5 + j, none⟩ (.string t2)) := kept_fresh hk6 ((Kept.refl [g5] w6).setCell (p := ⟨g5, o5 + j, none⟩) (.inl (by simp)) (.string t2)) (by simpa using hg53)
      have hbox7 := (hk7.block _ (lt_of_block HBOX3.out) (by simp)).trans HBOX3.out
      have hres7 := (hk7.block _ (lt_of_block HRES3.out) (by simp)).trans HRES3.out
      obtain ⟨b0, b1, b2, _, _, _⟩ := three hbox7
      obtain ⟨ys, hys⟩ : ∃ ys, xs.set j t2 = ys := ⟨_, rfl⟩
      have hyl : ys.length = xs.length := by rw [← hys, List.length_set]
      rw [show (xs.map Value.string).set j (.string t2) = ys.map .string from by rw [← hys, List.map_set]] at hv7
      rw [hys] at HE HOK
      have HYL := Lib.hid hyl
      rw [← hyl] at hv7
      have HV7 := Lib.hid hv7
      have HK7 := Lib.hid hk7
      have HR7 := Lib.hid hres7
      have i0' : (0 : Int) ≤ (j : Int) := by omega
      have i1' : (j : Int) < (xs.length : Int) := by omega
      clear hv5 ht5 hk5 hk6 hb6 hv6 hys hyl hv7 hk7 hbox7 hres7 ht2 happ hF5
      go_wp2_with fail
      rw [← HYL.out]
      refine (ref_with (H3.out.kept HK7.out (by simp)) a b HV7.out HOK.out (by omega)).mono ?_
      rintro e w8 ⟨y, W', c', ws', G', rfl, hy, hl', hG', hb8⟩
      have hyv := hy.v
      subst hyv
      have HY := Lib.hid hy
      have hres8 := (hb8.block _ (lt_of_block HR7.out)).trans HR7.out
      have HR8 := Lib.hid hres8
      have hbw8 := HBW.out.trans ((HK7.out.below (B := w3.heap.size) (Nat.le_refl _) (by simp)).mono HBW.out.size)
      have HBW8 := Lib.hid (hbw8.trans (hb8.mono hbw8.size))
      have hsz8 : w3.heap.size ≤ w8.heap.size := Nat.le_trans HK7.out.size hb8.size
      have HGG := Lib.hid (show ∀ k, k ∈ G' → k ∈ G ∨ w3.heap.size ≤ k from fun k hk => (hG' k hk).imp id fun h => h.elim (fun h => by simp at h; omega) (fun h => Nat.le_trans HK7.out.size h))
      clear b0 b1 b2 hy hb8 hbw8 hG' HV7
      obtain ⟨_, _, _, g0, g1, g2⟩ := three hres8
      clear hres8
      generalize hsn : (s.set a b ys).n = sn at *
      generalize hsm : (s.set a b ys).m = sm at *
      have HSN := Lib.hid (And.intro hsn hsm)
      clear hsn hsm
      go_wp2_with fail
      have q := three_set HR8.out (.int .i64 (sn : Int)) (.int .i64 (sm : Int)) (.slice W' ws'.length c')
      refine ret_row2 Tryz.results56 (w.heap.size + 1) _ _ _ _ rfl q.1 rfl Tryz.underlying33 rfl (by kernel_rfl) rfl ?_
      have hfin : ∀ wf, Kept [w.heap.size + 1] w8 wf → PutSaid w G (s.flip a b (j : Int) bit) ws.length (s.flipOk a b (j : Int)) (.returned (.tuple #[.agg #[.int .i64 (sn : Int), .int .i64 (sm : Int), .slice W' ws'.length c'], .bool true])) wf := by
        intro wf hkf
        rw [HE.out.1, HE.out.2]
        refine ⟨_, W', c', ws', G', rfl, HY.out.kept hkf (fun k hk2 => ?_), hl', fun k hk2 => (HGG.out k hk2).imp id (fun h => by omega), HBW8.out.trans (hkf.below HBW8.out.size (by simp))⟩
        rcases HGG.out k hk2 with h | h
        · have := H0.out.lt k h; simp; omega
        · simp; omega
      exact hfin _ q.2
end
end Go.Proofs.YtihhflajkohibaaGreatDoor.Net
