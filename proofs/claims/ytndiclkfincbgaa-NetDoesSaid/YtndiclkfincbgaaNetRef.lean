/- Layer 8, the reference: a net as a value: what reads it. Conditions: the value's rows lie (RefNet). -/
import Derived.Test.YtndiclkfincbgaaNetLaws
import Derived.Test.YtndiclkfincbgaaWhole
namespace Go.Proofs.Ytndiclkfincbgaa.Net
set_option linter.unusedSimpArgs false
set_option linter.unusedVariables false
open Go.RowKit
theorem str_info : (Try.prog.info? 9).map (fun i => (i.zero, i.size, i.bytes)) = some (some (.string ⟨#[]⟩), 1, 16) := by kernel_rfl
theorem way_info : (Try.prog.info? 62).map (fun i => (i.zero, i.size, i.bytes)) = some (some (.agg #[.int .i64 0, .int .i64 0, .slice none 0 0]), 3, 40) := by kernel_rfl
theorem vec_empty (w : World) (e : TypeId) (size g : Nat) (hg : w.heap.size = g) : Vec (w.alloc (.cells #[] e)) [g] size (some ⟨g, 0, none⟩) 0 0 [] := by
  subst hg
  have h := Vec.of_new (w := w.alloc (.cells #[] e)) (e := e) (g := w.heap.size) #[] size 0 0 (Nat.le_refl _) (Nat.zero_le _) (by simp) (heap_alloc_new w _)
  simpa using h
/-- a way of the reference's net -/
structure Way where
  a : Int
  b : Int
  A : Option Addr
  c : Nat
  xs : List ByteArray
def Way.cells (x : Way) : List Value := [.int .i64 x.a, .int .i64 x.b, .slice x.A x.xs.length x.c]
def Way.is (x : Way) (a b : Int) : Bool := decide (x.a = a ∧ x.b = b)
def rowOf : List Way → Int → Int → List ByteArray
  | [], _, _ => []
  | x :: r, a, b => if x.is a b then x.xs else rowOf r a b
theorem rowOf_filter (ws : List Way) (a b x y : Int) (h : ¬ (x = a ∧ y = b)) : rowOf (ws.filter fun z => !z.is a b) x y = rowOf ws x y := by
  induction ws with
  | nil => rfl
  | cons z r ih =>
    rw [List.filter_cons]
    cases hz : z.is a b
    · simp only [Bool.not_false, if_true, rowOf, ih]
    · simp only [Bool.not_true, Bool.false_eq_true, if_false, ih, rowOf]
      rw [if_neg]
      simp only [Way.is, decide_eq_true_eq] at hz ⊢
      omega
/-- a net as a value: its ways and their rows lie in blocks of G -/
structure RefNet (w : World) (G : List Nat) (v : Value) (s : NS) (W : Option Addr) (c : Nat) (ws : List Way) : Prop where
  v : v = .agg #[.int .i64 (s.n : Int), .int .i64 (s.m : Int), .slice W ws.length c]
  ways : ∃ H, Vec w H 3 W ws.length c (ws.flatMap Way.cells) ∧ ∀ k, k ∈ H → k ∈ G
  rows : ∀ x ∈ ws, ∃ H, Vec w H 1 x.A x.xs.length x.c (x.xs.map .string) ∧ ∀ k, k ∈ H → k ∈ G
  f : ∀ a b, rowOf ws a b = s.f a b
  own : ∀ x ∈ ws, s.f x.a x.b = x.xs
  ok : s.Ok
  lt : ∀ k, k ∈ G → k < w.heap.size
section
variable {w w' : World} {G : List Nat} {v : Value} {s : NS} {W : Option Addr} {c : Nat} {ws : List Way}
theorem RefNet.keep (h : RefNet w G v s W c ws) (hs : w.heap.size ≤ w'.heap.size) (hb : ∀ k, k ∈ G → w'.heap[k]? = w.heap[k]?) : RefNet w' G v s W c ws := by
  obtain ⟨H, h1, h2⟩ := h.ways
  refine ⟨h.v, ⟨H, h1.keep hs fun k hk => hb k (h2 k hk), h2⟩, fun x hx => ?_, h.f, h.own, h.ok, fun k hk => Nat.lt_of_lt_of_le (h.lt k hk) hs⟩
  obtain ⟨H, h1, h2⟩ := h.rows x hx
  exact ⟨H, h1.keep hs fun k hk => hb k (h2 k hk), h2⟩
theorem RefNet.after (h : RefNet w G v s W c ws) (hb : Below w.heap.size w w') : RefNet w' G v s W c ws := h.keep hb.size fun k hk => hb.block k (h.lt k hk)
theorem RefNet.kept {L : List Nat} (h : RefNet w G v s W c ws) (hk : Kept L w w') (hL : ∀ k, k ∈ G → k ∉ L) : RefNet w' G v s W c ws := h.keep hk.size fun k hm => hk.block k (h.lt k hm) (hL k hm)
theorem RefNet.drewN (h : RefNet w G v s W c ws) (n : Nat) : RefNet (w.drewN n) G v s W c ws := h.keep (Nat.le_refl _) fun _ _ => rfl
theorem RefNet.alloc (h : RefNet w G v s W c ws) (o : Obj) : RefNet (w.alloc o) G v s W c ws := h.after ((Below.refl _ _).alloc (Nat.le_refl _) o)
/-- the cells of a way -/
structure WayAt (w : World) (g o : Nat) (x : Way) : Prop where
  c0 : w.cell? ⟨g, o, none⟩ = some (.int .i64 x.a)
  c1 : w.cell? ⟨g, o + 1, none⟩ = some (.int .i64 x.b)
  c2 : w.cell? ⟨g, o + 2, none⟩ = some (.slice x.A x.xs.length x.c)
theorem RefNet.way (h : RefNet w G v s W c ws) {k : Nat} (hk : k < ws.length) : ∃ g o, W = some ⟨g, o, none⟩ ∧ g ∈ G ∧ WayAt w g (o + k * 3) ws[k] := by
  obtain ⟨H, h1, h2⟩ := h.ways
  have hat : ∀ r u, r < 3 → (ws[k].cells)[r]? = some u → (ws.flatMap Way.cells)[k * 3 + r]? = some u := fun r u hr hu => by
    rw [flat_get (size := 3) (fun _ => rfl) ws k r hr, List.getElem?_eq_getElem hk]; exact hu
  obtain ⟨g, o, e, hH, hg, q0⟩ := h1.at (hat 0 _ (by omega) rfl)
  obtain ⟨g1, o1, e1, _, _, q1⟩ := h1.at (hat 1 _ (by omega) rfl)
  obtain ⟨g2, o2, e2, _, _, q2⟩ := h1.at (hat 2 _ (by omega) rfl)
  rw [e] at e1 e2
  injection e1 with e1
  injection e1 with e11 e12
  injection e2 with e2
  injection e2 with e21 e22
  subst e11; subst e12; subst e21; subst e22
  refine ⟨g, o, e, h2 g (by rw [hH]; simp), by simpa using q0, by rw [Nat.add_assoc]; exact q1, by rw [Nat.add_assoc]; exact q2⟩
theorem rowOf_drop (ws : List Way) (k : Nat) (hk : k < ws.length) (a b : Int) : rowOf (ws.drop k) a b = if (ws[k]).is a b then (ws[k]).xs else rowOf (ws.drop (k + 1)) a b := by
  rw [List.drop_eq_getElem_cons hk]; rfl
theorem rowOf_nil (ws : List Way) (h : ∀ x ∈ ws, x.xs = []) (a b : Int) : rowOf ws a b = [] := by
  induction ws with
  | nil => rfl
  | cons x r ih =>
    simp only [rowOf]
    split
    · exact h x (by simp)
    · exact ih fun y hy => h y (by simp [hy])
def RowSaid8 (w : World) (G : List Nat) (s : NS) (a b : Int) (e : Ending) (w' : World) : Prop :=
  ∃ A c H, e = .returned (.slice A (s.f a b).length c) ∧ Vec w H 1 A (s.f a b).length c ((s.f a b).map .string) ∧ (∀ k, k ∈ H → k ∈ G) ∧ Below w.heap.size w w'
set_option maxHeartbeats 4000000 in
theorem ref_row (h : RefNet w G v s W c ws) (a b : Int) (hl : ws.length ≤ 1000) :
    Calls Try.prog 18 #[v, .int .i64 a, .int .i64 b] w (RowSaid8 w G s a b) := by
  have hbx : Below w.heap.size w (w.alloc (.cells #[.int .i64 (s.n : Int), .int .i64 (s.m : Int), .slice W ws.length c] 29)) := (Below.refl _ _).alloc (Nat.le_refl _) _
  have H := Lib.hid (h.after hbx)
  have H0 := Lib.hid h
  have HB := Lib.hid hbx
  have hv := h.v
  subst hv
  clear h hbx
  go_enter Try.func18, Try.ntmps18
  go_wp2_with fail
  go_loop [7] (fun i => ∃ k : Nat, k ≤ ws.length ∧ i = .int .i64 (k : Int) ∧ rowOf (ws.drop k) a b = s.f a b) (fun i => ws.length - (intOf i).toNat)
  case atStart => exact ⟨0, Nat.zero_le _, rfl, by simpa using H0.out.f a b⟩
  case round =>
    obtain ⟨k, hk, rfl, hro⟩ := hrel
    by_cases hlt : k < ws.length
    · obtain ⟨g, o, rfl, hg, hat⟩ := H.out.way hlt
      rw [rowOf_drop ws k hlt] at hro
      have hxs := H0.out.rows ws[k] (List.getElem_mem hlt)
      have HXS := Lib.hid hxs
      have HRO := Lib.hid hro
      clear hro hxs
      generalize ws[k] = x at *
      obtain ⟨c0, c1, c2⟩ := hat
      have i0 : (0 : Int) ≤ (k : Int) := by omega
      have i1 : (k : Int) < (ws.length : Int) := by omega
      by_cases q1 : x.a = a
      · by_cases q2 : x.b = b
        · have hr := HRO.out
          rw [if_pos (by simp [Way.is, q1, q2])] at hr
          have HR := Lib.hid hr
          have d1 : (x.a == a) = true := beq_iff_eq.2 q1
          have d2 : (x.b == b) = true := beq_iff_eq.2 q2
          clear hr q1 q2
          go_wp2_with fail
          go_ret
          obtain ⟨J, k1, k2⟩ := HXS.out
          rw [HR.out] at k1
          exact ⟨x.A, x.c, J, (by rw [HR.out]; rfl), k1, k2, HB.out⟩
        · have hr := HRO.out
          rw [if_neg (by simp [Way.is, q2])] at hr
          have HR := Lib.hid hr
          have d1 : (x.a == a) = true := beq_iff_eq.2 q1
          have d2 : (x.b == b) = false := beq_eq_false_iff_ne.2 q2
          clear hr q1 q2
          go_wp2_with fail
          go_round
          case rel => exact ⟨k + 1, by omega, by go_num, HR.out⟩
          case measure => simp [intOf]; omega
      · have hr := HRO.out
        rw [if_neg (by simp [Way.is, q1])] at hr
        have HR := Lib.hid hr
        have d1 : (x.a == a) = false := beq_eq_false_iff_ne.2 q1
        clear hr q1
        go_wp2_with fail
        go_round
        case rel => exact ⟨k + 1, by omega, by go_num, HR.out⟩
        case measure => simp [intOf]; omega
    · obtain rfl : k = ws.length := by omega
      have hr : s.f a b = [] := by rw [← hro, List.drop_length]; rfl
      have HR := Lib.hid hr
      clear hr hro
      go_wp2_with fail
      go_ret
      exact ⟨none, 0, [], by rw [HR.out]; rfl, by rw [HR.out]; exact Vec.nil _ _, by simp, HB.out⟩
theorem ref_new (n room : Int) (w : World) :
    Calls Try.prog 12 #[.int .i64 n, .int .i64 room] w fun e w' => ∃ v, e = .returned v ∧ RefNet w' [] v (new n room) none 0 [] ∧ Below w.heap.size w w' := by
  have h1 : ((clampN n 64 : Nat) : Int) = min (max n 0) 64 := by unfold clampN; omega
  have h2 : ((clampN room 1000 : Nat) : Int) = min (max room 0) 1000 := by unfold clampN; omega
  have hfin : ∀ (w' : World) (x y : Int), x = ((clampN n 64 : Nat) : Int) → y = ((clampN room 1000 : Nat) : Int) → RefNet w' [] (.agg #[.int .i64 x, .int .i64 y, .slice none 0 0]) (new n room) none 0 [] := by
    intro w' x y hx hy
    subst hx; subst hy
    exact ⟨rfl, ⟨[], Vec.nil _ _, by simp⟩, by simp, fun _ _ => rfl, by simp, new_ok n room, by simp⟩
  have HF := Lib.hid hfin
  have H1 := Lib.hid h1
  have H2 := Lib.hid h2
  clear h1 h2 hfin
  go_enter Try.func12, Try.ntmps12
  go_wp2
  all_goals
    exact bodyPost_ret (v := .agg #[.int .i64 _, .int .i64 _, .slice none 0 0]) (by simp [results, Try.results12, go_sem]; exact ⟨rfl, rfl⟩) rfl ⟨_, rfl, HF.out _ _ _ (by rw [H1.out]; omega) (by rw [H2.out]; omega), (Below.refl _ _).alloc (Nat.le_refl _) _⟩
set_option maxHeartbeats 4000000 in
theorem ref_nodes (h : RefNet w G v s W c ws) (a b : Int) :
    Calls Try.prog 28 #[v, .int .i64 a, .int .i64 b] w fun e w' => e = .returned (.bool (s.good a b)) ∧ Below w.heap.size w w' := by
  have hbx : Below w.heap.size w (w.alloc (.cells #[.int .i64 (s.n : Int), .int .i64 (s.m : Int), .slice W ws.length c] 29)) := (Below.refl _ _).alloc (Nat.le_refl _) _
  have HB := Lib.hid hbx
  have hv := h.v
  subst hv
  clear h hbx
  have hcase : (a < 0 ∧ s.good a b = false) ∨ (0 ≤ a ∧ (s.n : Int) ≤ a ∧ s.good a b = false) ∨ (0 ≤ a ∧ a < (s.n : Int) ∧ b < 0 ∧ s.good a b = false) ∨ (0 ≤ a ∧ a < (s.n : Int) ∧ 0 ≤ b ∧ (s.n : Int) ≤ b ∧ s.good a b = false) ∨ (0 ≤ a ∧ a < (s.n : Int) ∧ 0 ≤ b ∧ b < (s.n : Int) ∧ a = b ∧ s.good a b = false) ∨ (0 ≤ a ∧ a < (s.n : Int) ∧ 0 ≤ b ∧ b < (s.n : Int) ∧ a ≠ b ∧ s.good a b = true) := by
    unfold NS.good
    by_cases h1 : a < 0
    · exact .inl ⟨h1, by simp; omega⟩
    · by_cases h2 : (s.n : Int) ≤ a
      · exact .inr (.inl ⟨by omega, h2, by simp; omega⟩)
      · by_cases h3 : b < 0
        · exact .inr (.inr (.inl ⟨by omega, by omega, h3, by simp; omega⟩))
        · by_cases h4 : (s.n : Int) ≤ b
          · exact .inr (.inr (.inr (.inl ⟨by omega, by omega, by omega, h4, by simp; omega⟩)))
          · by_cases h5 : a = b
            · exact .inr (.inr (.inr (.inr (.inl ⟨by omega, by omega, by omega, by omega, h5, by simp; omega⟩))))
            · exact .inr (.inr (.inr (.inr (.inr ⟨by omega, by omega, by omega, by omega, h5, by simp; omega⟩))))
  rcases hcase with ⟨h1, hg⟩ | ⟨h1, h2, hg⟩ | ⟨h1, h2, h3, hg⟩ | ⟨h1, h2, h3, h4, hg⟩ | ⟨h1, h2, h3, h4, rfl, hg⟩ | ⟨h1, h2, h3, h4, h5, hg⟩
  · rw [hg]; clear hg
    have d1 : decide (0 ≤ a) = false := by simp; omega
    go_enter Try.func28, Try.ntmps28
    go_wp2_with fail
    go_ret
    exact ⟨rfl, HB.out⟩
  · rw [hg]; clear hg
    have d1 : decide (0 ≤ a) = true := by simp; omega
    have d2 : decide (a < (s.n : Int)) = false := by simp; omega
    go_enter Try.func28, Try.ntmps28
    go_wp2_with fail
    go_ret
    exact ⟨rfl, HB.out⟩
  · rw [hg]; clear hg
    have d1 : decide (0 ≤ a) = true := by simp; omega
    have d2 : decide (a < (s.n : Int)) = true := by simp; omega
    have d3 : decide (0 ≤ b) = false := by simp; omega
    go_enter Try.func28, Try.ntmps28
    go_wp2_with fail
    go_ret
    exact ⟨rfl, HB.out⟩
  · rw [hg]; clear hg
    have d1 : decide (0 ≤ a) = true := by simp; omega
    have d2 : decide (a < (s.n : Int)) = true := by simp; omega
    have d3 : decide (0 ≤ b) = true := by simp; omega
    have d4 : decide (b < (s.n : Int)) = false := by simp; omega
    go_enter Try.func28, Try.ntmps28
    go_wp2_with fail
    go_ret
    exact ⟨rfl, HB.out⟩
  · rw [hg]; clear hg
    have d1 : decide (0 ≤ a) = true := by simp; omega
    have d2 : decide (a < (s.n : Int)) = true := by simp; omega
    go_enter Try.func28, Try.ntmps28
    go_wp2_with fail
    go_ret
    exact ⟨rfl, HB.out⟩
  · rw [hg]; clear hg
    have d1 : decide (0 ≤ a) = true := by simp; omega
    have d2 : decide (a < (s.n : Int)) = true := by simp; omega
    have d3 : decide (0 ≤ b) = true := by simp; omega
    have d4 : decide (b < (s.n : Int)) = true := by simp; omega
    have d5 : (a == b) = false := beq_eq_false_iff_ne.2 h5
    have d6 : (a != b) = true := bne_iff_ne.2 h5
    clear h5
    go_enter Try.func28, Try.ntmps28
    go_wp2_with fail
    go_ret
    exact ⟨rfl, HB.out⟩
set_option maxHeartbeats 4000000 in
theorem ref_look (h : RefNet w G v s W c ws) (a b k : Int) (hl : ws.length ≤ 1000) :
    Calls Try.prog 23 #[v, .int .i64 a, .int .i64 b, .int .i64 k] w fun e w' => e = .returned (.tuple #[.string (s.look a b k), .bool (s.isAt a b k)]) ∧ Below w.heap.size w w' := by
  have hbx : Below w.heap.size w (w.alloc (.cells #[.int .i64 (s.n : Int), .int .i64 (s.m : Int), .slice W ws.length c] 29)) := (Below.refl _ _).alloc (Nat.le_refl _) _
  have H := Lib.hid (h.after hbx)
  have HB := Lib.hid hbx
  have hv := h.v
  have hcap := Nat.le_trans (h.ok.room a b) h.ok.m1000
  subst hv
  clear h hbx
  have hlk : s.look a b k = if 0 ≤ k ∧ k < ((s.f a b).length : Int) then (s.f a b).getD k.toNat ⟨#[]⟩ else ⟨#[]⟩ := by
    unfold NS.look NS.isAt
    by_cases c : 0 ≤ k ∧ k < ((s.f a b).length : Int)
    · rw [if_pos (by simpa using c), if_pos c]
    · rw [if_neg (by simpa using c), if_neg c]
  have hia : s.isAt a b k = decide (0 ≤ k ∧ k < ((s.f a b).length : Int)) := rfl
  have hno : ¬ (0 ≤ k ∧ k < ((s.f a b).length : Int)) → s.look a b k = ⟨#[]⟩ ∧ s.isAt a b k = false := fun h => by rw [hlk, hia, if_neg h]; exact ⟨rfl, by simpa using h⟩
  have HNO := Lib.hid hno
  have hyes : ∀ j : Nat, k = (j : Int) → ∀ h : j < (s.f a b).length, s.look a b k = (s.f a b)[j] ∧ s.isAt a b k = true := fun j e h => by
    rw [hlk, hia, if_pos (by omega), e, Int.toNat_natCast, List.getD_eq_getElem?_getD, List.getElem?_eq_getElem h]
    exact ⟨rfl, by simp; omega⟩
  have HYES := Lib.hid hyes
  clear hlk hia hno hyes
  go_enter Try.func23, Try.ntmps23
  go_wp2_with fail
  refine (ref_row H.out a b hl).mono ?_
  rintro e w1 ⟨A, d, K, rfl, hvec, _, hb⟩
  have HV := Lib.hid (hvec.after hb)
  have HB1 := Lib.hid (HB.out.trans (hb.mono HB.out.size))
  clear hvec hb
  generalize s.f a b = xs at *
  by_cases h1 : k < 0
  · have d1 : decide (k < 0) = true := by simpa using h1
    have HE := Lib.hid (HNO.out (by omega))
    clear h1
    go_wp2_with fail
    go_ret2
    exact ⟨ret_sb HE.out.1.symm HE.out.2.symm, HB1.out⟩
  · have d1 : decide (k < 0) = false := by simpa using h1
    by_cases h2 : (xs.length : Int) ≤ k
    · have d2 : decide ((xs.length : Int) ≤ k) = true := by simpa using h2
      have HE := Lib.hid (HNO.out (by omega))
      clear h1 h2
      go_wp2_with fail
      go_ret2
      exact ⟨ret_sb HE.out.1.symm HE.out.2.symm, HB1.out⟩
    · obtain ⟨j, rfl⟩ : ∃ j : Nat, k = (j : Int) := ⟨k.toNat, by omega⟩
      have hj : j < xs.length := by omega
      have d2 : decide (xs.length ≤ j) = false := by simp; omega
      have HE := Lib.hid (HYES.out j rfl hj)
      obtain ⟨g, o, rfl, _, _, hc⟩ := HV.out.at (j := j) (u := .string xs[j]) (by rw [List.getElem?_map, List.getElem?_eq_getElem hj]; rfl)
      generalize xs[j] = t at *
      have i0 : (0 : Int) ≤ (j : Int) := by omega
      have i1 : (j : Int) < (xs.length : Int) := by omega
      clear h1 h2
      go_wp2_with fail
      go_ret2
      exact ⟨ret_sb HE.out.1.symm HE.out.2.symm, HB1.out⟩
def QuietR (w : World) (s : NS) (e : Ending) (w' : World) : Prop := ∃ b : Bool, e = .returned (.bool b) ∧ (b = true ↔ s.quiet) ∧ Below w.heap.size w w'
set_option maxHeartbeats 4000000 in
theorem ref_quiet (h : RefNet w G v s W c ws) (hl : ws.length ≤ 1000) :
    Calls Try.prog 21 #[v] w (QuietR w s) := by
  have hbx : Below w.heap.size w (w.alloc (.cells #[.int .i64 (s.n : Int), .int .i64 (s.m : Int), .slice W ws.length c] 29)) := (Below.refl _ _).alloc (Nat.le_refl _) _
  have H := Lib.hid (h.after hbx)
  have HB := Lib.hid hbx
  have hv := h.v
  subst hv
  clear h hbx
  go_enter Try.func21, Try.ntmps21
  go_wp2_with fail
  go_loop [3] (fun i => ∃ k : Nat, k ≤ ws.length ∧ i = .int .i64 (k : Int) ∧ ∀ x ∈ ws.take k, x.xs = []) (fun i => ws.length - (intOf i).toNat)
  case atStart => exact ⟨0, Nat.zero_le _, rfl, by simp⟩
  case round =>
    obtain ⟨k, hk, rfl, hro⟩ := hrel
    have HRO := Lib.hid hro
    clear hro
    by_cases hlt : k < ws.length
    · obtain ⟨g, o, rfl, hg, hat⟩ := H.out.way hlt
      have hown := H.out.own ws[k] (List.getElem_mem hlt)
      have hro : ws[k].xs = [] → ∀ x ∈ ws.take (k + 1), x.xs = [] := fun h x hx => by
        rw [List.take_succ_eq_append_getElem hlt] at hx
        rcases List.mem_append.1 hx with hx | hx
        · exact HRO.out x hx
        · simp at hx; subst hx; exact h
      have HRO2 := Lib.hid hro
      have HOWN := Lib.hid hown
      clear hown hro
      generalize ws[k] = x at *
      obtain ⟨c0, c1, c2⟩ := hat
      have i0 : (0 : Int) ≤ (k : Int) := by omega
      have i1 : (k : Int) < (ws.length : Int) := by omega
      obtain ⟨n, hn⟩ : ∃ n, x.xs.length = n := ⟨_, rfl⟩
      rw [hn] at c2
      have HN := Lib.hid hn
      clear hn
      by_cases hz : n = 0
      · subst hz
        have hR := HRO2.out (List.eq_nil_of_length_eq_zero HN.out)
        have HR := Lib.hid hR
        clear hR
        go_wp2_with fail
        go_round
        case rel => exact ⟨k + 1, by omega, by go_num, HR.out⟩
        case measure => simp [intOf]; omega
      · have hd : decide (0 < n) = true := by simp; omega
        go_wp2_with fail
        go_ret
        refine ⟨false, rfl, ⟨(fun h => by cases h), fun hq => ?_⟩, HB.out⟩
        have := hq x.a x.b
        rw [HOWN.out] at this
        rw [this] at HN
        exact absurd HN.out.symm hz
    · obtain rfl : k = ws.length := by omega
      go_wp2_with fail
      go_ret
      refine ⟨true, rfl, ⟨fun _ a b => ?_, fun _ => rfl⟩, HB.out⟩
      have hall := HRO.out
      rw [List.take_length] at hall
      rw [← H.out.f a b]
      exact rowOf_nil ws hall a b
end
end Go.Proofs.Ytndiclkfincbgaa.Net
