/- Layer 10, the reference: a pipe as a value of twenty-seven cells: its parts taken and laid. Conditions: the parts have their sizes (Fits). -/
import Derived.Test.YtihhflajkohibaaGreatDoorLrMany
import Derived.Test.YtihhflajkohibaaGreatDoorNrMany
import Derived.Test.YtihhflajkohibaaGreatDoorGoMany
import Derived.BigQuiet
namespace Go.Proofs.YtihhflajkohibaaGreatDoor.Pipe
set_option linter.unusedSimpArgs false
set_option linter.unusedVariables false
set_option maxRecDepth 100000
open Go.RowKit
open Go.Proofs.YtihhflajkohibaaGreatDoor
open Go.Proofs.YtihhflajkohibaaGreatDoor.Link (LE Fr zero11)
open Go.Proofs.YtihhflajkohibaaGreatDoor.Net (NS)
/-- the parts of a pipe's value -/
structure RC where
  a : List Value
  b : List Value
  ga : Value
  gb : Value
  n : List Value
def RC.l (r : RC) : List Value := r.a ++ (r.b ++ (r.ga :: r.gb :: r.n))
def RC.all (r : RC) : Array Value := r.l.toArray
structure RC.Fits (r : RC) : Prop where
  a : r.a.length = 11
  b : r.b.length = 11
  n : r.n.length = 3
  one : ∀ v ∈ r.l, v.oneCell' = true
theorem RC.Fits.len {r : RC} (h : r.Fits) : r.l.length = 27 := by
  have := h.a; have := h.b; have := h.n
  simp only [RC.l, List.length_append, List.length_cons]; omega
theorem RC.Fits.size {r : RC} (h : r.Fits) : r.all.size = 27 := by unfold RC.all; rw [List.size_toArray]; exact h.len
theorem RC.Fits.all {r : RC} (h : r.Fits) : r.all.all (·.oneCell') = true := all_oneCell_toArray h.one
def z27 : Array Value := #[.int .i64 0, .int .i64 0, .int .i64 0, .int .i64 0, .slice none 0 0, .int .u64 0, .int .i64 0, .int .i64 0, .int .u64 0, .bool false, .int .i64 0, .int .i64 0, .int .i64 0, .int .i64 0, .int .i64 0, .slice none 0 0, .int .u64 0, .int .i64 0, .int .i64 0, .int .u64 0, .bool false, .int .i64 0, .slice none 0 0, .slice none 0 0, .int .i64 0, .int .i64 0, .slice none 0 0]
theorem setCells_mid (g : Nat) (t : TypeId) (vs : List Value) : ∀ (pre old post : List Value) (w : World), w.heap[g]? = some (.cells (pre ++ (old ++ post)).toArray t (0, 0)) → old.length = vs.length →
    (w.setCells g pre.length vs).heap[g]? = some (.cells (pre ++ (vs ++ post)).toArray t (0, 0)) := by
  induction vs with
  | nil => intro pre old post w h hl; obtain rfl : old = [] := List.eq_nil_of_length_eq_zero (by simpa using hl); exact h
  | cons v vs ih =>
    intro pre old post w h hl
    cases old with
    | nil => simp at hl
    | cons p old =>
      have h1 := set_block h pre.length v
      have h2 := ih (pre ++ [v]) old post (w.setCell ⟨g, pre.length, none⟩ v) (by rw [h1]; simp) (by simpa using hl)
      rw [List.append_assoc, List.singleton_append, show (pre ++ [v]).length = pre.length + 1 from by simp] at h2
      exact h2
/-- a part of a block -/
theorem range_mid {w : World} {g : Nat} {t : TypeId} (pre mid post : List Value) (h : w.heap[g]? = some (.cells (pre ++ (mid ++ post)).toArray t (0, 0))) : w.rangeAt g pre.length mid := fun j v hj => by
  rw [cell_of_block h]
  have hlt : j < mid.length := (List.getElem?_eq_some_iff.1 hj).1
  rw [List.getElem?_toArray, List.getElem?_append_right (by omega), List.getElem?_append_left (by omega)]
  rw [← hj]; congr 1; omega
theorem there_mid {w : World} {g : Nat} {t : TypeId} (pre mid post : List Value) (h : w.heap[g]? = some (.cells (pre ++ (mid ++ post)).toArray t (0, 0))) : w.there g pre.length mid.length := fun j hj =>
  ⟨by rw [cell_of_block h, List.getElem?_toArray, List.getElem?_append_right (by omega), List.getElem?_append_left (by omega), List.getElem?_eq_getElem (by omega)]; rfl, frozen_of_block h _⟩
section
variable {r : RC} {w : World} {g : Nat}
/-- a pipe's value in a block -/
def RBox (w : World) (g : Nat) (r : RC) : Prop := w.heap[g]? = some (.cells r.all 35 (0, 0))
theorem RBox.a (h : RBox w g r) : w.rangeAt g 0 r.a := range_mid [] r.a _ h
theorem RBox.b (h : RBox w g r) (hr : r.Fits) : w.rangeAt g 11 r.b := by
  have := range_mid r.a r.b (r.ga :: r.gb :: r.n) h
  rwa [hr.a] at this
theorem RBox.n (h : RBox w g r) (hr : r.Fits) : w.rangeAt g 24 r.n := by
  have := range_mid (r.a ++ r.b ++ [r.ga, r.gb]) r.n [] (by have := h; unfold RBox RC.all RC.l at this; simpa using this)
  rwa [show (r.a ++ r.b ++ [r.ga, r.gb]).length = 24 from by simp [hr.a, hr.b]] at this
theorem RBox.ga (h : RBox w g r) (hr : r.Fits) : w.cell? ⟨g, 22, none⟩ = some r.ga := by
  have h1 := range_mid (r.a ++ r.b) [r.ga] (r.gb :: r.n) (by have := h; unfold RBox RC.all RC.l at this; simpa using this) 0 r.ga rfl
  rwa [show (r.a ++ r.b).length + 0 = 22 from by simp [hr.a, hr.b]] at h1
theorem RBox.gb (h : RBox w g r) (hr : r.Fits) : w.cell? ⟨g, 23, none⟩ = some r.gb := by
  have h1 := range_mid (r.a ++ r.b ++ [r.ga]) [r.gb] r.n (by have := h; unfold RBox RC.all RC.l at this; simpa using this) 0 r.gb rfl
  rwa [show (r.a ++ r.b ++ [r.ga]).length + 0 = 23 from by simp [hr.a, hr.b]] at h1
theorem RBox.setA (h : RBox w g r) (hr : r.Fits) {x : List Value} (hx : x.length = 11) : w.there g 0 x.length ∧ RBox (w.setCells g 0 x) g { r with a := x } ∧ Kept [g] w (w.setCells g 0 x) := by
  have h1 := there_mid [] r.a _ h
  rw [hr.a] at h1
  exact ⟨by rw [hx]; exact h1, setCells_mid g _ x [] r.a _ w h (by rw [hr.a, hx]), setCells_kept g x 0 w⟩
theorem RBox.setB (h : RBox w g r) (hr : r.Fits) {x : List Value} (hx : x.length = 11) : w.there g 11 x.length ∧ RBox (w.setCells g 11 x) g { r with b := x } ∧ Kept [g] w (w.setCells g 11 x) := by
  have h1 := there_mid r.a r.b _ h
  rw [hr.b, hr.a] at h1
  have h2 := setCells_mid g _ x r.a r.b _ w h (by rw [hr.b, hx])
  rw [hr.a] at h2
  exact ⟨by rw [hx]; exact h1, h2, setCells_kept g x 11 w⟩
theorem RBox.setN (h : RBox w g r) (hr : r.Fits) {x : List Value} (hx : x.length = 3) : w.there g 24 x.length ∧ RBox (w.setCells g 24 x) g { r with n := x } ∧ Kept [g] w (w.setCells g 24 x) := by
  have h0 : w.heap[g]? = some (.cells ((r.a ++ r.b ++ [r.ga, r.gb]) ++ (r.n ++ [])).toArray 35 (0, 0)) := by have := h; unfold RBox RC.all RC.l at this; simpa using this
  have e : (r.a ++ r.b ++ [r.ga, r.gb]).length = 24 := by simp [hr.a, hr.b]
  have h1 := there_mid _ r.n [] h0
  rw [hr.n, e] at h1
  have h2 := setCells_mid g _ x _ r.n [] w h0 (by rw [hr.n, hx])
  rw [e] at h2
  refine ⟨by rw [hx]; exact h1, ?_, setCells_kept g x 24 w⟩
  unfold RBox RC.all RC.l
  simpa using h2
end
/-- the two boxes that a function of the reference begins with -/
theorem two_boxes (w : World) (C Z : Array Value) (T U : TypeId) : ((w.alloc (.cells C T)).alloc (.cells Z U)).heap[w.heap.size]? = some (.cells C T (0, 0)) ∧ ((w.alloc (.cells C T)).alloc (.cells Z U)).heap[w.heap.size + 1]? = some (.cells Z U (0, 0)) ∧ Below w.heap.size w ((w.alloc (.cells C T)).alloc (.cells Z U)) :=
  ⟨(Below.heap_alloc _ _ _ (by simp)).trans (heap_alloc_new w _), heap_new_at _ _ _ (by simp), ((Below.refl _ _).alloc (Nat.le_refl _) _).alloc (by simp) _⟩
theorem infoE : (Tryz.prog.info? 30).map (·.size) = some 11 := by kernel_rfl
theorem infoN : (Tryz.prog.info? 33).map (·.size) = some 3 := by kernel_rfl
theorem infoP : (Tryz.prog.info? 35).map (·.size) = some 27 := by kernel_rfl
set_option maxHeartbeats 2000000 in
theorem ref_end (r : RC) (hr : r.Fits) (n : Int) (E : Array Value) (hE : E = (if n = 0 then r.a else r.b).toArray) (w : World) : Calls Tryz.prog 26 #[.agg r.all, .int .i64 n] w fun e w' => e = .returned (.agg E) ∧ Below w.heap.size w w' := by
  obtain ⟨C, hC⟩ : ∃ C, r.all = C := ⟨_, rfl⟩
  obtain ⟨w2, hw2⟩ : ∃ w2, (w.alloc (.cells C 35)).alloc (.cells zero11 30) = w2 := ⟨_, rfl⟩
  obtain ⟨p1, p2, p3⟩ := two_boxes w C zero11 35 30
  rw [hw2] at p1 p2 p3
  have hbx : RBox w2 w.heap.size r := by unfold RBox; rw [hC]; exact p1
  unfold zero11 at hw2
  have HW := Lib.hid hw2
  have HP2 := Lib.hid p2
  have HP3 := Lib.hid p3
  have HBX := Lib.hid hbx
  rw [hC]
  have HR := Lib.hid hr
  have HE := Lib.hid hE
  clear hC hw2 p1 p2 p3 hbx hE
  by_cases h0 : n = 0
  · have q0 : (n == 0) = true := beq_iff_eq.2 h0
    have HA := Lib.hid (show E = r.a.toArray from by rw [HE.out, if_pos h0])
    clear h0
    go_enter Tryz.func26, Tryz.ntmps26
    go_upto_region 1 with fail
    rw [HW.out]
    go_wp2_with (first | (refine wpList_load_mid rfl 30 _ rfl w.heap.size 0 rfl r.a _ (HBX.out.a) Tryz.underlying30 rfl (by rw [HR.out.a]; exact infoE) ?_) | (refine wpList_store_all rfl 30 _ _ rfl (w.heap.size + 1) zero11 r.a.toArray 30 rfl rfl HP2.out (by simp [HR.out.a, zero11]) (by rw [List.size_toArray, HR.out.a]; exact infoE) (all_oneCell_toArray fun v hv => HR.out.one v (by unfold RC.l; simp [hv])) ?_; intro w9 hq9 hk9))
    refine ret_row1 Tryz.results26 (w.heap.size + 1) _ _ _ rfl hq9 Tryz.underlying30 rfl (by rw [List.size_toArray, HR.out.a]; exact infoE) rfl ?_
    exact ⟨by rw [HA.out], HP3.out.trans (hk9.below (by have := HP3.out.size; omega) (by simp))⟩
  · have q0 : (n == 0) = false := beq_eq_false_iff_ne.2 h0
    have HA := Lib.hid (show E = r.b.toArray from by rw [HE.out, if_neg h0])
    clear h0
    go_enter Tryz.func26, Tryz.ntmps26
    go_upto_region 1 with fail
    rw [HW.out]
    go_wp2_with (first | (refine wpList_load_mid rfl 30 _ rfl w.heap.size 11 rfl r.b _ (HBX.out.b HR.out) Tryz.underlying30 rfl (by rw [HR.out.b]; exact infoE) ?_) | (refine wpList_store_all rfl 30 _ _ rfl (w.heap.size + 1) zero11 r.b.toArray 30 rfl rfl HP2.out (by simp [HR.out.b, zero11]) (by rw [List.size_toArray, HR.out.b]; exact infoE) (all_oneCell_toArray fun v hv => HR.out.one v (by unfold RC.l; simp [hv])) ?_; intro w9 hq9 hk9))
    refine ret_row1 Tryz.results26 (w.heap.size + 1) _ _ _ rfl hq9 Tryz.underlying30 rfl (by rw [List.size_toArray, HR.out.b]; exact infoE) rfl ?_
    exact ⟨by rw [HA.out], HP3.out.trans (hk9.below (by have := HP3.out.size; omega) (by simp))⟩
theorem three_boxes (w : World) (C D Z : Array Value) (T U V : TypeId) : (((w.alloc (.cells C T)).alloc (.cells D U)).alloc (.cells Z V)).heap[w.heap.size]? = some (.cells C T (0, 0)) ∧ (((w.alloc (.cells C T)).alloc (.cells D U)).alloc (.cells Z V)).heap[w.heap.size + 1]? = some (.cells D U (0, 0)) ∧
    (((w.alloc (.cells C T)).alloc (.cells D U)).alloc (.cells Z V)).heap[w.heap.size + 1 + 1]? = some (.cells Z V (0, 0)) ∧ Below w.heap.size w (((w.alloc (.cells C T)).alloc (.cells D U)).alloc (.cells Z V)) :=
  ⟨(Below.heap_alloc _ _ _ (by simp; omega)).trans ((Below.heap_alloc _ _ _ (by simp)).trans (heap_alloc_new w _)), (Below.heap_alloc _ _ _ (by simp)).trans (heap_new_at _ _ _ (by simp)), heap_new_at _ _ _ (by simp), (((Below.refl _ _).alloc (Nat.le_refl _) _).alloc (by simp) _).alloc (by simp; omega) _⟩
/-- with another end of a side -/
def RC.with (r : RC) (n : Int) (x : List Value) : RC := if n = 0 then { r with a := x } else { r with b := x }
theorem RC.Fits.with {r : RC} (h : r.Fits) (n : Int) {x : List Value} (hx : x.length = 11) (h1 : ∀ v ∈ x, v.oneCell' = true) : (r.with n x).Fits := by
  have ho := h.one
  simp only [RC.l, List.mem_append, List.mem_cons] at ho
  unfold RC.with
  split
  · refine ⟨hx, h.b, h.n, fun v hv => ?_⟩
    simp only [RC.l, List.mem_append, List.mem_cons] at hv
    rcases hv with hv | hv
    · exact h1 v hv
    · exact ho v (.inr hv)
  · refine ⟨h.a, hx, h.n, fun v hv => ?_⟩
    simp only [RC.l, List.mem_append, List.mem_cons] at hv
    rcases hv with hv | hv | hv
    · exact ho v (.inl hv)
    · exact h1 v hv
    · exact ho v (.inr (.inr hv))
set_option maxHeartbeats 2000000 in
theorem ref_with (r : RC) (hr : r.Fits) (n : Int) (x : List Value) (hx : x.length = 11) (h1 : ∀ v ∈ x, v.oneCell' = true) (R : Array Value) (hR : R = (r.with n x).all) (w : World) :
    Calls Tryz.prog 37 #[.agg r.all, .int .i64 n, .agg x.toArray] w fun e w' => e = .returned (.agg R) ∧ Below w.heap.size w w' := by
  obtain ⟨C, hC⟩ : ∃ C, r.all = C := ⟨_, rfl⟩
  obtain ⟨E, hE⟩ : ∃ E, x.toArray = E := ⟨_, rfl⟩
  have hEs : E.size = 11 := by rw [← hE]; simpa using hx
  obtain ⟨w2, hw2⟩ : ∃ w2, ((w.alloc (.cells C 35)).alloc (.cells E 30)).alloc (.cells z27 35) = w2 := ⟨_, rfl⟩
  obtain ⟨p1, p2, p3, p4⟩ := three_boxes w C E z27 35 30 35
  rw [hw2] at p1 p2 p3 p4
  have hbx : RBox w2 w.heap.size r := by unfold RBox; rw [hC]; exact p1
  unfold z27 at hw2
  have HW := Lib.hid hw2
  have HP2 := Lib.hid p2
  have HP3 := Lib.hid p3
  have HP4 := Lib.hid p4
  have HX := Lib.hid hx
  have HES := Lib.hid hEs
  have HEX := Lib.hid hE
  have HEO := Lib.hid (show E.all (·.oneCell') = true from by rw [← hE]; exact all_oneCell_toArray h1)
  have HR := Lib.hid hr
  have HFW := Lib.hid (hr.with n hx h1)
  have HRR := Lib.hid hR
  rw [hC, hE]
  by_cases h0 : n = 0
  · have q0 : (n == 0) = true := beq_iff_eq.2 h0
    obtain ⟨s1, s2, s3⟩ := hbx.setA hr hx
    have e : r.with n x = { r with a := x } := by unfold RC.with; rw [if_pos h0]
    rw [e] at hR HFW
    have HS := Lib.hid (And.intro s1 (And.intro s2 s3))
    have HT := Lib.hid (show E.toList = x from by rw [← hE])
    have HZ := Lib.hid (show (w2.setCells w.heap.size 0 x).heap[w.heap.size + 1 + 1]? = some (.cells z27 35 (0, 0)) from (s3.block _ (lt_of_block p3) (by simp; omega)).trans p3)
    have HRR := Lib.hid hR
    clear hC hE hEs hw2 p1 p2 p3 p4 hbx h0 s1 s2 s3 e hR hx h1 hr
    go_enter Tryz.func37, Tryz.ntmps37
    go_upto_region 1 with fail
    rw [HW.out]
    go_wp2_with (first | (refine wpList_load_row rfl 30 _ rfl (w.heap.size + 1) rfl 30 E (0, 0) _ HP2.out Tryz.underlying30 rfl (by rw [HES.out]; exact infoE) ?_) | (refine wpList_store_mid rfl 30 _ _ rfl w.heap.size 0 E rfl rfl (by have h := HS.out.1; rw [HX.out] at h; rw [HES.out]; exact h) (by rw [HES.out]; exact infoE) HEO.out ?_; rw [HT.out]) | (refine wpList_load_row rfl 35 _ rfl w.heap.size rfl 35 _ (0, 0) _ HS.out.2.1 Tryz.underlying35 rfl (by rw [HFW.out.size]; exact infoP) ?_) | (refine wpList_store_all rfl 35 _ _ rfl (w.heap.size + 1 + 1) z27 _ 35 rfl rfl HZ.out (by rw [HFW.out.size]; rfl) (by rw [HFW.out.size]; exact infoP) HFW.out.all ?_; intro w9 hq9 hk9))
    refine ret_row1 Tryz.results37 (w.heap.size + 1 + 1) _ _ _ rfl hq9 Tryz.underlying35 rfl (by rw [HFW.out.size]; exact infoP) rfl ?_
    exact ⟨by rw [HRR.out], HP4.out.trans ((HS.out.2.2.below (by have := HP4.out.size; omega) (by simp)).trans (hk9.below (by have := HP4.out.size; have := HS.out.2.2.size; omega) (by simp; omega)))⟩
  · have q0 : (n == 0) = false := beq_eq_false_iff_ne.2 h0
    obtain ⟨s1, s2, s3⟩ := hbx.setB hr hx
    have e : r.with n x = { r with b := x } := by unfold RC.with; rw [if_neg h0]
    rw [e] at hR HFW
    have HS := Lib.hid (And.intro s1 (And.intro s2 s3))
    have HT := Lib.hid (show E.toList = x from by rw [← hE])
    have HZ := Lib.hid (show (w2.setCells w.heap.size 11 x).heap[w.heap.size + 1 + 1]? = some (.cells z27 35 (0, 0)) from (s3.block _ (lt_of_block p3) (by simp; omega)).trans p3)
    have HRR := Lib.hid hR
    clear hC hE hEs hw2 p1 p2 p3 p4 hbx h0 s1 s2 s3 e hR hx h1 hr
    go_enter Tryz.func37, Tryz.ntmps37
    go_upto_region 1 with fail
    rw [HW.out]
    go_wp2_with (first | (refine wpList_load_row rfl 30 _ rfl (w.heap.size + 1) rfl 30 E (0, 0) _ HP2.out Tryz.underlying30 rfl (by rw [HES.out]; exact infoE) ?_) | (refine wpList_store_mid rfl 30 _ _ rfl w.heap.size 11 E rfl rfl (by have h := HS.out.1; rw [HX.out] at h; rw [HES.out]; exact h) (by rw [HES.out]; exact infoE) HEO.out ?_; rw [HT.out]) | (refine wpList_load_row rfl 35 _ rfl w.heap.size rfl 35 _ (0, 0) _ HS.out.2.1 Tryz.underlying35 rfl (by rw [HFW.out.size]; exact infoP) ?_) | (refine wpList_store_all rfl 35 _ _ rfl (w.heap.size + 1 + 1) z27 _ 35 rfl rfl HZ.out (by rw [HFW.out.size]; rfl) (by rw [HFW.out.size]; exact infoP) HFW.out.all ?_; intro w9 hq9 hk9))
    refine ret_row1 Tryz.results37 (w.heap.size + 1 + 1) _ _ _ rfl hq9 Tryz.underlying35 rfl (by rw [HFW.out.size]; exact infoP) rfl ?_
    exact ⟨by rw [HRR.out], HP4.out.trans ((HS.out.2.2.below (by have := HP4.out.size; omega) (by simp)).trans (hk9.below (by have := HP4.out.size; have := HS.out.2.2.size; omega) (by simp; omega)))⟩
set_option maxHeartbeats 2000000 in
theorem ref_got (r : RC) (hr : r.Fits) (n : Int) (w : World) : Calls Tryz.prog 24 #[.agg r.all, .int .i64 n] w fun e w' => e = .returned (if n = 0 then r.ga else r.gb) ∧ Below w.heap.size w w' := by
  obtain ⟨C, hC⟩ : ∃ C, r.all = C := ⟨_, rfl⟩
  have hb := (Below.refl w.heap.size w).alloc (Nat.le_refl _) (.cells C 35)
  have hbx : RBox (w.alloc (.cells C 35)) w.heap.size r := by unfold RBox; rw [hC]; exact heap_alloc_new w _
  have y0 := hbx.ga hr
  have y1 := hbx.gb hr
  have HB := Lib.hid hb
  rw [hC]
  clear hC hb hbx
  by_cases h0 : n = 0
  · have q0 : (n == 0) = true := beq_iff_eq.2 h0
    rw [if_pos h0]
    clear h0
    go_enter Tryz.func24, Tryz.ntmps24
    go_wp2_with fail
    go_ret
    exact ⟨rfl, HB.out⟩
  · have q0 : (n == 0) = false := beq_eq_false_iff_ne.2 h0
    rw [if_neg h0]
    clear h0
    go_enter Tryz.func24, Tryz.ntmps24
    go_wp2_with fail
    go_ret
    exact ⟨rfl, HB.out⟩
end Go.Proofs.YtihhflajkohibaaGreatDoor.Pipe
/- Layer 10, the reference: a pipe's value beside the plain pipe. Conditions: those of each lemma. -/
namespace Go.Proofs.YtihhflajkohibaaGreatDoor.Pipe
set_option linter.unusedSimpArgs false
set_option linter.unusedVariables false
set_option maxRecDepth 100000
open Go.RowKit
open Go.Proofs.YtihhflajkohibaaGreatDoor
open Go.Proofs.YtihhflajkohibaaGreatDoor.Link (LE Fr zero11 Low ends)
open Go.Proofs.YtihhflajkohibaaGreatDoor.Net (NS RefNet)
/-- where the rows of a pipe's value stand -/
structure RM where
  A : Bool → Option Addr
  c : Bool → Nat
  L : Bool → List Nat
  g : Bool → Arr
  G : List Nat
  W : Option Addr
  d : Nat
  ws : List Net.Way
def RM.net (M : RM) (n : NS) : List Value := [.int .i64 (n.n : Int), .int .i64 (n.m : Int), .slice M.W M.ws.length M.d]
def RM.end (M : RM) (s : PS) (b : Bool) : List Value := (ends (s.e b) (M.A b) (M.c b)).toList
def RM.rc (M : RM) (s : PS) : RC := ⟨M.end s false, M.end s true, sl (M.g false) (s.g false).length, sl (M.g true) (s.g true).length, M.net s.n⟩
def RM.all (M : RM) : List Nat := M.L false ++ (M.L true ++ ((M.g false).F ++ ((M.g true).F ++ M.G)))
theorem RM.end_len (M : RM) (s : PS) (b : Bool) : (M.end s b).length = 11 := rfl
theorem RM.end_one (M : RM) (s : PS) (b : Bool) : ∀ v ∈ M.end s b, v.oneCell' = true := by
  intro v hv
  simp [RM.end, ends] at hv
  rcases hv with rfl | rfl | rfl | rfl | rfl | rfl | rfl | rfl | rfl | rfl | rfl <;> rfl
theorem RM.fits (M : RM) (s : PS) : (M.rc s).Fits := by
  refine ⟨rfl, rfl, rfl, fun v hv => ?_⟩
  simp only [RC.l, RM.rc, List.mem_append, List.mem_cons] at hv
  rcases hv with hv | hv | rfl | rfl | hv
  · exact M.end_one s false v hv
  · exact M.end_one s true v hv
  · rfl
  · rfl
  · simp [RM.net] at hv
    rcases hv with rfl | rfl | rfl <;> rfl
structure RIs (w : World) (M : RM) (s : PS) (K : Nat) : Prop where
  low : ∀ b, Low w (M.L b) (s.e b) (M.A b) (M.c b)
  ok : ∀ b, (s.e b).Ok
  got : ∀ b, Vec w (M.g b).F 1 (M.g b).A (s.g b).length (M.g b).c ((s.g b).map .string)
  net : RefNet w M.G (.agg (M.net s.n).toArray) s.n M.W M.d M.ws
  len : M.ws.length ≤ K
  lt : ∀ k, k ∈ M.all → k < w.heap.size
theorem RM.mem_L {M : RM} {b : Bool} {k : Nat} (h : k ∈ M.L b) : k ∈ M.all := by cases b <;> simp [RM.all, h]
theorem RM.mem_g {M : RM} {b : Bool} {k : Nat} (h : k ∈ (M.g b).F) : k ∈ M.all := by cases b <;> simp [RM.all, h]
theorem RM.mem_G {M : RM} {k : Nat} (h : k ∈ M.G) : k ∈ M.all := by simp [RM.all, h]
section
variable {w w' : World} {M : RM} {s : PS} {K : Nat}
theorem RIs.keep (h : RIs w M s K) (hs : w.heap.size ≤ w'.heap.size) (hb : ∀ k, k ∈ M.all → w'.heap[k]? = w.heap[k]?) : RIs w' M s K :=
  ⟨fun b => (h.low b).keep hs fun k hk => hb k (RM.mem_L hk), h.ok, fun b => (h.got b).keep hs fun k hk => hb k (RM.mem_g hk), h.net.keep hs fun k hk => hb k (RM.mem_G hk), h.len, fun k hk => Nat.lt_of_lt_of_le (h.lt k hk) hs⟩
theorem RIs.after (h : RIs w M s K) (hb : Below w.heap.size w w') : RIs w' M s K := h.keep hb.size fun k hk => hb.block k (h.lt k hk)
theorem RIs.kept {L : List Nat} (h : RIs w M s K) (hk : Kept L w w') (hL : ∀ k, k ∈ M.all → k ∉ L) : RIs w' M s K := h.keep hk.size fun k hm => hk.block k (h.lt k hm) (hL k hm)
theorem RIs.more (h : RIs w M s K) {J : Nat} (hJ : K ≤ J) : RIs w M s J := ⟨h.low, h.ok, h.got, h.net, Nat.le_trans h.len hJ, h.lt⟩
/-- an end is another one -/
def RM.setE (M : RM) (me : Bool) (A : Option Addr) (c : Nat) (L : List Nat) : RM := { M with A := up M.A me A, c := up M.c me c, L := up M.L me L }
theorem RM.setE_rc (M : RM) (s : PS) (me : Bool) (A : Option Addr) (c : Nat) (L : List Nat) (z : LE) : (M.setE me A c L).rc { s with e := up s.e me z } = (M.rc s).with (no me) (ends z A c).toList := by cases me <;> rfl
theorem RM.setE_all (M : RM) (me : Bool) (A : Option Addr) (c : Nat) (L : List Nat) {k : Nat} (h : k ∈ (M.setE me A c L).all) : k ∈ L ∨ k ∈ M.all := by
  cases me
  · simp only [RM.all, RM.setE, List.mem_append, up] at h ⊢
    simp at h
    rcases h with h | h | h | h | h
    · exact .inl h
    · exact .inr (.inr (.inl h))
    · exact .inr (.inr (.inr (.inl h)))
    · exact .inr (.inr (.inr (.inr (.inl h))))
    · exact .inr (.inr (.inr (.inr (.inr h))))
  · simp only [RM.all, RM.setE, List.mem_append, up] at h ⊢
    simp at h
    rcases h with h | h | h | h | h
    · exact .inr (.inl h)
    · exact .inl h
    · exact .inr (.inr (.inr (.inl h)))
    · exact .inr (.inr (.inr (.inr (.inl h))))
    · exact .inr (.inr (.inr (.inr (.inr h))))
theorem RIs.setE (h : RIs w M s K) (me : Bool) {A : Option Addr} {c : Nat} {L : List Nat} {z : LE} (hl : Low w L z A c) (hz : z.Ok) (hL : ∀ k, k ∈ L → k < w.heap.size) : RIs w (M.setE me A c L) { s with e := up s.e me z } K := by
  refine ⟨fun b => ?_, fun b => ?_, h.got, h.net, h.len, fun k hk => (RM.setE_all M me A c L hk).elim (hL k) (h.lt k)⟩
  · show Low w (up M.L me L b) (up s.e me z b) (up M.A me A b) (up M.c me c b)
    unfold up
    split
    · exact hl
    · exact h.low b
  · show (up s.e me z b).Ok
    unfold up
    split
    · exact hz
    · exact h.ok b
/-- the net is another one -/
def RM.setN (M : RM) (G : List Nat) (W : Option Addr) (d : Nat) (ws : List Net.Way) : RM := { M with G := G, W := W, d := d, ws := ws }
theorem RIs.setN (h : RIs w M s K) {G : List Nat} {W : Option Addr} {d : Nat} {ws : List Net.Way} {v : Value} {n : NS} (hn : RefNet w G v n W d ws) {J : Nat} (hJ : ws.length ≤ J) : RIs w (M.setN G W d ws) { s with n := n } J := by
  refine ⟨h.low, h.ok, h.got, ?_, hJ, fun k hk => ?_⟩
  · have := hn.v; subst this; exact hn
  · simp only [RM.all, RM.setN, List.mem_append] at hk
    rcases hk with hk | hk | hk | hk | hk
    · exact h.lt k (RM.mem_L hk)
    · exact h.lt k (RM.mem_L hk)
    · exact h.lt k (RM.mem_g hk)
    · exact h.lt k (RM.mem_g hk)
    · exact hn.lt k hk
theorem RM.setN_all (M : RM) (G : List Nat) (W : Option Addr) (d : Nat) (ws : List Net.Way) {k : Nat} (h : k ∈ (M.setN G W d ws).all) : k ∈ G ∨ k ∈ M.all := by
  simp only [RM.all, RM.setN, List.mem_append] at h ⊢
  rcases h with h | h | h | h | h
  · exact .inr (.inl h)
  · exact .inr (.inr (.inl h))
  · exact .inr (.inr (.inr (.inl h)))
  · exact .inr (.inr (.inr (.inr (.inl h))))
  · exact .inl h
end
/-- what an act of the reference hands back: the next value; all that is older stays -/
def RefSaid (w : World) (M : RM) (s : PS) (K : Nat) (f : Value → Value) (e : Ending) (w' : World) : Prop :=
  ∃ M', e = .returned (f (.agg (M'.rc s).all)) ∧ RIs w' M' s K ∧ Below w.heap.size w w' ∧ ∀ k, k ∈ M'.all → k ∈ M.all ∨ w.heap.size ≤ k
/-- within a function of the reference: the argument's box, and the pipe's rows -/
structure RW (w : World) (r : RC) (M : RM) (s : PS) (K : Nat) (v : World) : Prop where
  box : RBox v w.heap.size r
  is : RIs v M s K
  below : Below w.heap.size w v
  lt : w.heap.size < v.heap.size
section
variable {w v v' : World} {r : RC} {M : RM} {s : PS} {K : Nat}
theorem RW.after (h : RW w r M s K v) (hb : Below v.heap.size v v') : RW w r M s K v' := ⟨(hb.block _ h.lt).trans h.box, h.is.after hb, h.below.trans (hb.mono (Nat.le_of_lt h.lt)), Nat.lt_of_lt_of_le h.lt hb.size⟩
/-- a function of the reference begins -/
theorem RIs.begin (h : RIs w M s K) (Z : Array Value) (T : TypeId) : RW w (M.rc s) M s K ((w.alloc (.cells (M.rc s).all 35)).alloc (.cells Z T)) ∧ ((w.alloc (.cells (M.rc s).all 35)).alloc (.cells Z T)).heap[w.heap.size + 1]? = some (.cells Z T (0, 0)) := by
  obtain ⟨p1, p2, p3⟩ := two_boxes w (M.rc s).all Z 35 T
  exact ⟨⟨p1, h.after p3, p3, by simp; omega⟩, p2⟩
end
end Go.Proofs.YtihhflajkohibaaGreatDoor.Pipe
/- Layer 10, the reference: what its small functions make of a pipe's value. Conditions: the value's rows lie (RIs). -/
namespace Go.Proofs.YtihhflajkohibaaGreatDoor.Pipe
set_option linter.unusedSimpArgs false
set_option linter.unusedVariables false
set_option maxRecDepth 100000
open Go.RowKit
open Go.Proofs.YtihhflajkohibaaGreatDoor
open Go.Proofs.YtihhflajkohibaaGreatDoor.Link (LE Fr zero11 Low ends)
open Go.Proofs.YtihhflajkohibaaGreatDoor.Net (NS RefNet)
/-- the blocks of an end's bodies are blocks of the world -/
theorem Low.trim {w : World} {G : List Nat} {x : LE} {A : Option Addr} {c : Nat} (h : Low w G x A c) : ∃ G', Low w G' x A c ∧ (∀ k, k ∈ G' → k ∈ G) ∧ ∀ k, k ∈ G' → k < w.heap.size := by
  by_cases hb : x.bodies = []
  · exact ⟨[], ⟨h.le, h.max, fun hn => absurd hb hn⟩, fun k hk => (by cases hk), fun k hk => (by cases hk)⟩
  · exact ⟨G, h, fun _ hk => hk, fun k hk => (h.some_ hb).lt hk⟩
/-- the act's end: the next value lies in the result's block -/
theorem RefSaid.mk' {w v v' : World} {M M' : RM} {s' : PS} {K : Nat} {f : Value → Value} {R : Array Value} (h : RIs v M' s' K) (hR : (M'.rc s').all = R) (hb : Below w.heap.size w v) (hk : Kept [w.heap.size + 1] v v') (hlt : ∀ k, k ∈ M'.all → k ∈ M.all ∨ w.heap.size + 2 ≤ k) (hM : ∀ k, k ∈ M.all → k < w.heap.size) : RefSaid w M s' K f (.returned (f (.agg R))) v' := by
  refine ⟨M', by rw [hR], h.kept hk fun k hm => ?_, hb.trans (hk.below hb.size (by simp)), fun k hm => (hlt k hm).imp id (fun h => by omega)⟩
  rcases hlt k hm with h1 | h1
  · have := hM k h1; simp; omega
  · simp; omega
section
variable {w : World} {M : RM} {s : PS} {K : Nat}
set_option maxRecDepth 100000 in
set_option maxHeartbeats 4000000 in
theorem ref_send_false (h : RIs w M s K) (b : ByteArray) : Calls Tryz.prog 9 #[.agg (M.rc s).all, .int .i64 0, .string b] w (RefSaid w M (s.send false b) K (fun v => .tuple #[v, .int .i64 ((s.e false).sendE b)])) := by
  have hlt := h.lt
  obtain ⟨C, hC⟩ : ∃ C, (M.rc s).all = C := ⟨_, rfl⟩
  have HCS := Lib.hid (show C.size = 27 from by rw [← hC]; exact (M.fits s).size)
  have HCO := Lib.hid (show C.all (·.oneCell') = true from by rw [← hC]; exact (M.fits s).all)
  obtain ⟨w2, hw2⟩ : ∃ w2, (w.alloc (.cells C 35)).alloc (.cells z27 35) = w2 := ⟨_, rfl⟩
  obtain ⟨hrw, hz⟩ := h.begin z27 35
  rw [hC, hw2] at hrw hz
  unfold z27 at hw2
  have HW := Lib.hid hw2
  have HRW := Lib.hid hrw
  have HZ := Lib.hid hz
  have HBX := Lib.hid (show w2.heap[w.heap.size]? = some (.cells C 35 (0, 0)) from by rw [← hC]; exact hrw.box)
  have HC := Lib.hid hC
  have HB2 := Lib.hid hrw.below
  rw [hC]
  obtain ⟨E, hE⟩ : ∃ E, (s.e false).sendE b = E := ⟨_, rfl⟩
  obtain ⟨E0, hE0⟩ : ∃ E0, ends (s.e false) (M.A false) (M.c false) = E0 := ⟨_, rfl⟩
  have hend := ref_end (M.rc s) (M.fits s) 0 E0 (by rw [← hE0]; rfl) w2
  rw [hC] at hend
  have HEND := Lib.hid hend
  have HE := Lib.hid hE
  have HE0 := Lib.hid hE0
  have HLT := Lib.hid hlt
  rw [hE]
  clear hC hw2 hrw hz h hend hE hE0 hlt
  go_enter Tryz.func9, Tryz.ntmps9
  go_upto_region 1 with fail
  rw [HW.out]
  go_wp2_with (refine wpList_load_row rfl 35 _ rfl w.heap.size rfl 35 C (0, 0) _ HBX.out Tryz.underlying35 rfl (by rw [HCS.out]; exact infoP) ?_)
  refine (HEND.out).mono ?_
  rintro e w3 ⟨rfl, hb3⟩
  have hrw3 := HRW.out.after hb3
  have hsnd := Link.ref_send (hrw3.is.low false) (hrw3.is.ok false) b
  rw [HE0.out, HE.out] at hsnd
  have HSND := Lib.hid hsnd
  have HR3 := Lib.hid hrw3
  have HB3 := Lib.hid hb3
  clear hb3 hrw3 hsnd
  go_wp2_with fail
  refine (HSND.out).mono ?_
  rintro e w4 ⟨A', c', G', rfl, hl4, hG4, hb4⟩
  obtain ⟨E1, hE1⟩ : ∃ E1, ends ((s.e false).sent b) A' c' = E1 := ⟨_, rfl⟩
  have HES := Lib.hid (show E1.size = 11 from by rw [← hE1]; rfl)
  have HEO := Lib.hid (show E1.all (·.oneCell') = true from by rw [← hE1]; simp [ends, Value.oneCell'])
  rw [hE1]
  have HE1 := Lib.hid hE1
  have HR4 := Lib.hid (HR3.out.after hb4)
  have HL4 := Lib.hid (And.intro hl4 hG4)
  have HB4 := Lib.hid (hb4)
  clear hl4 hG4 hb4 hE1
  go_wp2_with (first | (refine wpList_load_row rfl 35 _ rfl w.heap.size rfl 35 C (0, 0) _ HBX5.out Tryz.underlying35 rfl (by rw [HCS.out]; exact infoP) ?_) | (refine wpList_load_row rfl 30 _ rfl w4.heap.size rfl 30 E1 (0, 0) _ HQ5.out Tryz.underlying30 rfl (by rw [HES.out]; exact infoE) ?_) | (refine wpList_store_all rfl 30 _ _ rfl w4.heap.size zero11 E1 30 rfl rfl (heap_alloc_new w4 _) (by rw [HES.out]; rfl) (by rw [HES.out]; exact infoE) HEO.out ?_; intro w5 hq5 hk5; have hb5 : Below w4.heap.size w4 w5 := ((Below.refl _ _).alloc (Nat.le_refl _) _).trans (hk5.below (by simp) (by simp)); have HR5 := Lib.hid (HR4.out.after hb5); have HB5 := Lib.hid hb5; have HQ5 := Lib.hid hq5; have HBX5 := Lib.hid (show w5.heap[w.heap.size]? = some (.cells C 35 (0, 0)) from by rw [← HC.out]; exact HR5.out.box); clear hq5 hk5 hb5))
  obtain ⟨G2, hl2, hG2, hG3⟩ := Low.trim HL4.out.1
  obtain ⟨R, hR⟩ : ∃ R, ((M.setE false A' c' G2).rc (s.send false b)).all = R := ⟨_, rfl⟩
  have hfits := ((M.setE false A' c' G2).fits (s.send false b))
  have HRS := Lib.hid (show R.size = 27 from by rw [← hR]; exact hfits.size)
  have HRO := Lib.hid (show R.all (·.oneCell') = true from by rw [← hR]; exact hfits.all)
  have hwith := ref_with (M.rc s) (M.fits s) 0 E1.toList (by simpa using HES.out) (fun v hv => (Array.all_eq_true_iff_forall_mem.1 HEO.out) v (by simpa using hv)) R (by rw [← hR, ← HE1.out]; exact congrArg RC.all (M.setE_rc s false A' c' G2 ((s.e false).sent b))) w5
  have hxe : E1.toList.toArray = E1 := by simp
  rw [HC.out, hxe] at hwith
  have HWITH := Lib.hid hwith
  have HRR := Lib.hid hR
  have HIS := Lib.hid ((HR4.out.is.setE false hl2 ((HR4.out.is.ok false).sent b) hG3).after HB5.out)
  have HG2 := Lib.hid hG2
  clear hl2 hG2 hG3 hR hfits hwith hxe
  refine (HWITH.out).mono ?_
  rintro e w6 ⟨rfl, hb6⟩
  have HZ6 := Lib.hid (show w6.heap[w.heap.size + 1]? = some (.cells z27 35 (0, 0)) from by
    have s2 := lt_of_block HZ.out
    have s3 := HB3.out.size
    have s4 := HB4.out.size
    have s5 := HB5.out.size
    exact (hb6.block _ (by omega)).trans ((HB5.out.block _ (by omega)).trans ((HB4.out.block _ (by omega)).trans ((HB3.out.block _ s2).trans HZ.out))))
  have HB6 := Lib.hid hb6
  clear hb6
  go_wp2_with (refine wpList_store_all rfl 35 _ _ rfl (w.heap.size + 1) z27 R 35 rfl rfl HZ6.out (by rw [HRS.out]; rfl) (by rw [HRS.out]; exact infoP) HRO.out ?_; intro w9 hq9 hk9)
  refine ret_row2 Tryz.results9 (w.heap.size + 1) _ _ _ (.int .i64 E) rfl hq9 rfl Tryz.underlying35 rfl (by rw [HRS.out]; exact infoP) rfl ?_
  refine RefSaid.mk' (f := fun v => .tuple #[v, .int .i64 E]) (HIS.out.after HB6.out) HRR.out (HR5.out.below.trans (HB6.out.mono (Nat.le_of_lt HR5.out.lt))) hk9 (fun k hk => ?_) HLT.out
  rcases RM.setE_all M false A' c' G2 hk with h1 | h1
  · rcases HL4.out.2 k (HG2.out k h1) with h2 | h2
    · exact .inl (RM.mem_L h2)
    · have s2 := lt_of_block HZ.out
      have s3 := HB3.out.size
      exact .inr (by omega)
  · exact .inl h1
set_option maxRecDepth 100000 in
set_option maxHeartbeats 4000000 in
theorem ref_send_true (h : RIs w M s K) (b : ByteArray) : Calls Tryz.prog 9 #[.agg (M.rc s).all, .int .i64 1, .string b] w (RefSaid w M (s.send true b) K (fun v => .tuple #[v, .int .i64 ((s.e true).sendE b)])) := by
  have hlt := h.lt
  obtain ⟨C, hC⟩ : ∃ C, (M.rc s).all = C := ⟨_, rfl⟩
  have HCS := Lib.hid (show C.size = 27 from by rw [← hC]; exact (M.fits s).size)
  have HCO := Lib.hid (show C.all (·.oneCell') = true from by rw [← hC]; exact (M.fits s).all)
  obtain ⟨w2, hw2⟩ : ∃ w2, (w.alloc (.cells C 35)).alloc (.cells z27 35) = w2 := ⟨_, rfl⟩
  obtain ⟨hrw, hz⟩ := h.begin z27 35
  rw [hC, hw2] at hrw hz
  unfold z27 at hw2
  have HW := Lib.hid hw2
  have HRW := Lib.hid hrw
  have HZ := Lib.hid hz
  have HBX := Lib.hid (show w2.heap[w.heap.size]? = some (.cells C 35 (0, 0)) from by rw [← hC]; exact hrw.box)
  have HC := Lib.hid hC
  have HB2 := Lib.hid hrw.below
  rw [hC]
  obtain ⟨E, hE⟩ : ∃ E, (s.e true).sendE b = E := ⟨_, rfl⟩
  obtain ⟨E0, hE0⟩ : ∃ E0, ends (s.e true) (M.A true) (M.c true) = E0 := ⟨_, rfl⟩
  have hend := ref_end (M.rc s) (M.fits s) 1 E0 (by rw [← hE0]; rfl) w2
  rw [hC] at hend
  have HEND := Lib.hid hend
  have HE := Lib.hid hE
  have HE0 := Lib.hid hE0
  have HLT := Lib.hid hlt
  rw [hE]
  clear hC hw2 hrw hz h hend hE hE0 hlt
  go_enter Tryz.func9, Tryz.ntmps9
  go_upto_region 1 with fail
  rw [HW.out]
  go_wp2_with (refine wpList_load_row rfl 35 _ rfl w.heap.size rfl 35 C (0, 0) _ HBX.out Tryz.underlying35 rfl (by rw [HCS.out]; exact infoP) ?_)
  refine (HEND.out).mono ?_
  rintro e w3 ⟨rfl, hb3⟩
  have hrw3 := HRW.out.after hb3
  have hsnd := Link.ref_send (hrw3.is.low true) (hrw3.is.ok true) b
  rw [HE0.out, HE.out] at hsnd
  have HSND := Lib.hid hsnd
  have HR3 := Lib.hid hrw3
  have HB3 := Lib.hid hb3
  clear hb3 hrw3 hsnd
  go_wp2_with fail
  refine (HSND.out).mono ?_
  rintro e w4 ⟨A', c', G', rfl, hl4, hG4, hb4⟩
  obtain ⟨E1, hE1⟩ : ∃ E1, ends ((s.e true).sent b) A' c' = E1 := ⟨_, rfl⟩
  have HES := Lib.hid (show E1.size = 11 from by rw [← hE1]; rfl)
  have HEO := Lib.hid (show E1.all (·.oneCell') = true from by rw [← hE1]; simp [ends, Value.oneCell'])
  rw [hE1]
  have HE1 := Lib.hid hE1
  have HR4 := Lib.hid (HR3.out.after hb4)
  have HL4 := Lib.hid (And.intro hl4 hG4)
  have HB4 := Lib.hid (hb4)
  clear hl4 hG4 hb4 hE1
  go_wp2_with (first | (refine wpList_load_row rfl 35 _ rfl w.heap.size rfl 35 C (0, 0) _ HBX5.out Tryz.underlying35 rfl (by rw [HCS.out]; exact infoP) ?_) | (refine wpList_load_row rfl 30 _ rfl w4.heap.size rfl 30 E1 (0, 0) _ HQ5.out Tryz.underlying30 rfl (by rw [HES.out]; exact infoE) ?_) | (refine wpList_store_all rfl 30 _ _ rfl w4.heap.size zero11 E1 30 rfl rfl (heap_alloc_new w4 _) (by rw [HES.out]; rfl) (by rw [HES.out]; exact infoE) HEO.out ?_; intro w5 hq5 hk5; have hb5 : Below w4.heap.size w4 w5 := ((Below.refl _ _).alloc (Nat.le_refl _) _).trans (hk5.below (by simp) (by simp)); have HR5 := Lib.hid (HR4.out.after hb5); have HB5 := Lib.hid hb5; have HQ5 := Lib.hid hq5; have HBX5 := Lib.hid (show w5.heap[w.heap.size]? = some (.cells C 35 (0, 0)) from by rw [← HC.out]; exact HR5.out.box); clear hq5 hk5 hb5))
  obtain ⟨G2, hl2, hG2, hG3⟩ := Low.trim HL4.out.1
  obtain ⟨R, hR⟩ : ∃ R, ((M.setE true A' c' G2).rc (s.send true b)).all = R := ⟨_, rfl⟩
  have hfits := ((M.setE true A' c' G2).fits (s.send true b))
  have HRS := Lib.hid (show R.size = 27 from by rw [← hR]; exact hfits.size)
  have HRO := Lib.hid (show R.all (·.oneCell') = true from by rw [← hR]; exact hfits.all)
  have hwith := ref_with (M.rc s) (M.fits s) 1 E1.toList (by simpa using HES.out) (fun v hv => (Array.all_eq_true_iff_forall_mem.1 HEO.out) v (by simpa using hv)) R (by rw [← hR, ← HE1.out]; exact congrArg RC.all (M.setE_rc s true A' c' G2 ((s.e true).sent b))) w5
  have hxe : E1.toList.toArray = E1 := by simp
  rw [HC.out, hxe] at hwith
  have HWITH := Lib.hid hwith
  have HRR := Lib.hid hR
  have HIS := Lib.hid ((HR4.out.is.setE true hl2 ((HR4.out.is.ok true).sent b) hG3).after HB5.out)
  have HG2 := Lib.hid hG2
  clear hl2 hG2 hG3 hR hfits hwith hxe
  refine (HWITH.out).mono ?_
  rintro e w6 ⟨rfl, hb6⟩
  have HZ6 := Lib.hid (show w6.heap[w.heap.size + 1]? = some (.cells z27 35 (0, 0)) from by
    have s2 := lt_of_block HZ.out
    have s3 := HB3.out.size
    have s4 := HB4.out.size
    have s5 := HB5.out.size
    exact (hb6.block _ (by omega)).trans ((HB5.out.block _ (by omega)).trans ((HB4.out.block _ (by omega)).trans ((HB3.out.block _ s2).trans HZ.out))))
  have HB6 := Lib.hid hb6
  clear hb6
  go_wp2_with (refine wpList_store_all rfl 35 _ _ rfl (w.heap.size + 1) z27 R 35 rfl rfl HZ6.out (by rw [HRS.out]; rfl) (by rw [HRS.out]; exact infoP) HRO.out ?_; intro w9 hq9 hk9)
  refine ret_row2 Tryz.results9 (w.heap.size + 1) _ _ _ (.int .i64 E) rfl hq9 rfl Tryz.underlying35 rfl (by rw [HRS.out]; exact infoP) rfl ?_
  refine RefSaid.mk' (f := fun v => .tuple #[v, .int .i64 E]) (HIS.out.after HB6.out) HRR.out (HR5.out.below.trans (HB6.out.mono (Nat.le_of_lt HR5.out.lt))) hk9 (fun k hk => ?_) HLT.out
  rcases RM.setE_all M true A' c' G2 hk with h1 | h1
  · rcases HL4.out.2 k (HG2.out k h1) with h2 | h2
    · exact .inl (RM.mem_L h2)
    · have s2 := lt_of_block HZ.out
      have s3 := HB3.out.size
      exact .inr (by omega)
  · exact .inl h1
end
end Go.Proofs.YtihhflajkohibaaGreatDoor.Pipe
/- Layer 10, the reference: what is lost, doubled, turned on its way; sides that are not there. Conditions: the value's rows lie (RIs). -/
namespace Go.Proofs.YtihhflajkohibaaGreatDoor.Pipe
set_option linter.unusedSimpArgs false
set_option linter.unusedVariables false
set_option maxRecDepth 100000
open Go.RowKit
open Go.Proofs.YtihhflajkohibaaGreatDoor
open Go.Proofs.YtihhflajkohibaaGreatDoor.Link (LE Fr zero11 Low ends)
open Go.Proofs.YtihhflajkohibaaGreatDoor.Net (NS RefNet)
def zero3 : Array Value := #[.int .i64 0, .int .i64 0, .slice none 0 0]
section
variable {w : World} {M : RM} {s : PS} {K : Nat}
set_option maxHeartbeats 2000000 in
theorem ref_send_no (h : RIs w M s K) (n : Int) (hn : isSide n = false) (b : ByteArray) : Calls Tryz.prog 9 #[.agg (M.rc s).all, .int .i64 n, .string b] w (RefSaid w M s K (fun v => .tuple #[v, .int .i64 100])) := by
  have hlt := h.lt
  obtain ⟨C, hC⟩ : ∃ C, (M.rc s).all = C := ⟨_, rfl⟩
  have HCS := Lib.hid (show C.size = 27 from by rw [← hC]; exact (M.fits s).size)
  have HCO := Lib.hid (show C.all (·.oneCell') = true from by rw [← hC]; exact (M.fits s).all)
  obtain ⟨w2, hw2⟩ : ∃ w2, (w.alloc (.cells C 35)).alloc (.cells z27 35) = w2 := ⟨_, rfl⟩
  obtain ⟨hrw, hz⟩ := h.begin z27 35
  rw [hC, hw2] at hrw hz
  unfold z27 at hw2
  have HW := Lib.hid hw2
  have HRW := Lib.hid hrw
  have HZ := Lib.hid hz
  have HBX := Lib.hid (show w2.heap[w.heap.size]? = some (.cells C 35 (0, 0)) from by rw [← hC]; exact hrw.box)
  have HC := Lib.hid hC
  have HB2 := Lib.hid hrw.below
  rw [hC]
  have hnn : ¬ (n = 0 ∨ n = 1) := fun h => by rcases h with rfl | rfl <;> simp [isSide] at hn
  have d0 : (n != 0) = true := by simp; exact fun h => hnn (.inl h)
  have d1 : (n != 1) = true := by simp; exact fun h => hnn (.inr h)
  have HLT := Lib.hid hlt
  clear hC hw2 hrw hz hn hnn h hlt
  go_enter Tryz.func9, Tryz.ntmps9
  go_upto_region 1 with fail
  rw [HW.out]
  go_wp2_with (first | (refine wpList_load_row rfl 35 _ rfl w.heap.size rfl 35 C (0, 0) _ HBX.out Tryz.underlying35 rfl (by rw [HCS.out]; exact infoP) ?_) | (refine wpList_store_all rfl 35 _ _ rfl (w.heap.size + 1) z27 C 35 rfl rfl HZ.out (by rw [HCS.out]; rfl) (by rw [HCS.out]; exact infoP) HCO.out ?_; intro w9 hq9 hk9))
  refine ret_row2 Tryz.results9 (w.heap.size + 1) _ _ _ (.int .i64 100) rfl hq9 rfl Tryz.underlying35 rfl (by rw [HCS.out]; exact infoP) rfl ?_
  exact RefSaid.mk' (f := fun v => .tuple #[v, .int .i64 100]) HRW.out.is HC.out HB2.out hk9 (fun k hk => .inl hk) HLT.out
set_option maxHeartbeats 2000000 in
theorem ref_tick_no (h : RIs w M s K) (n : Int) (hn : isSide n = false) : Calls Tryz.prog 13 #[.agg (M.rc s).all, .int .i64 n] w (RefSaid w M s K (fun v => v)) := by
  have hlt := h.lt
  obtain ⟨C, hC⟩ : ∃ C, (M.rc s).all = C := ⟨_, rfl⟩
  have HCS := Lib.hid (show C.size = 27 from by rw [← hC]; exact (M.fits s).size)
  have HCO := Lib.hid (show C.all (·.oneCell') = true from by rw [← hC]; exact (M.fits s).all)
  obtain ⟨w2, hw2⟩ : ∃ w2, (w.alloc (.cells C 35)).alloc (.cells z27 35) = w2 := ⟨_, rfl⟩
  obtain ⟨hrw, hz⟩ := h.begin z27 35
  rw [hC, hw2] at hrw hz
  unfold z27 at hw2
  have HW := Lib.hid hw2
  have HRW := Lib.hid hrw
  have HZ := Lib.hid hz
  have HBX := Lib.hid (show w2.heap[w.heap.size]? = some (.cells C 35 (0, 0)) from by rw [← hC]; exact hrw.box)
  have HC := Lib.hid hC
  have HB2 := Lib.hid hrw.below
  rw [hC]
  have hnn : ¬ (n = 0 ∨ n = 1) := fun h => by rcases h with rfl | rfl <;> simp [isSide] at hn
  have d0 : (n != 0) = true := by simp; exact fun h => hnn (.inl h)
  have d1 : (n != 1) = true := by simp; exact fun h => hnn (.inr h)
  have HLT := Lib.hid hlt
  clear hC hw2 hrw hz hn hnn h hlt
  go_enter Tryz.func13, Tryz.ntmps13
  go_upto_region 1 with fail
  rw [HW.out]
  go_wp2_with (first | (refine wpList_load_row rfl 35 _ rfl w.heap.size rfl 35 C (0, 0) _ HBX.out Tryz.underlying35 rfl (by rw [HCS.out]; exact infoP) ?_) | (refine wpList_store_all rfl 35 _ _ rfl (w.heap.size + 1) z27 C 35 rfl rfl HZ.out (by rw [HCS.out]; rfl) (by rw [HCS.out]; exact infoP) HCO.out ?_; intro w9 hq9 hk9))
  refine ret_row1 Tryz.results13 (w.heap.size + 1) _ _ _ rfl hq9 Tryz.underlying35 rfl (by rw [HCS.out]; exact infoP) rfl ?_
  exact RefSaid.mk' (f := fun v => v) HRW.out.is HC.out HB2.out hk9 (fun k hk => .inl hk) HLT.out
set_option maxHeartbeats 2000000 in
theorem ref_go_no (h : RIs w M s K) (n : Int) (hn : isSide n = false) : Calls Tryz.prog 11 #[.agg (M.rc s).all, .int .i64 n] w (RefSaid w M s K (fun v => .tuple #[v, .int .i64 0])) := by
  have hlt := h.lt
  obtain ⟨C, hC⟩ : ∃ C, (M.rc s).all = C := ⟨_, rfl⟩
  have HCS := Lib.hid (show C.size = 27 from by rw [← hC]; exact (M.fits s).size)
  have HCO := Lib.hid (show C.all (·.oneCell') = true from by rw [← hC]; exact (M.fits s).all)
  obtain ⟨w2, hw2⟩ : ∃ w2, (w.alloc (.cells C 35)).alloc (.cells z27 35) = w2 := ⟨_, rfl⟩
  obtain ⟨hrw, hz⟩ := h.begin z27 35
  rw [hC, hw2] at hrw hz
  unfold z27 at hw2
  have HW := Lib.hid hw2
  have HRW := Lib.hid hrw
  have HZ := Lib.hid hz
  have HBX := Lib.hid (show w2.heap[w.heap.size]? = some (.cells C 35 (0, 0)) from by rw [← hC]; exact hrw.box)
  have HC := Lib.hid hC
  have HB2 := Lib.hid hrw.below
  rw [hC]
  have hnn : ¬ (n = 0 ∨ n = 1) := fun h => by rcases h with rfl | rfl <;> simp [isSide] at hn
  have d0 : (n != 0) = true := by simp; exact fun h => hnn (.inl h)
  have d1 : (n != 1) = true := by simp; exact fun h => hnn (.inr h)
  have HLT := Lib.hid hlt
  clear hC hw2 hrw hz hn hnn h hlt
  go_enter Tryz.func11, Tryz.ntmps11
  go_upto_region 1 with fail
  rw [HW.out]
  go_wp2_with (first | (refine wpList_load_row rfl 35 _ rfl w.heap.size rfl 35 C (0, 0) _ HBX.out Tryz.underlying35 rfl (by rw [HCS.out]; exact infoP) ?_) | (refine wpList_store_all rfl 35 _ _ rfl (w.heap.size + 1) z27 C 35 rfl rfl HZ.out (by rw [HCS.out]; rfl) (by rw [HCS.out]; exact infoP) HCO.out ?_; intro w9 hq9 hk9))
  refine ret_row2 Tryz.results11 (w.heap.size + 1) _ _ _ (.int .i64 0) rfl hq9 rfl Tryz.underlying35 rfl (by rw [HCS.out]; exact infoP) rfl ?_
  exact RefSaid.mk' (f := fun v => .tuple #[v, .int .i64 0]) HRW.out.is HC.out HB2.out hk9 (fun k hk => .inl hk) HLT.out
set_option maxRecDepth 100000 in
set_option maxHeartbeats 4000000 in
theorem ref_lose (h : RIs w M s K) (hK : K ≤ 900) (n a k : Int) (ha : IntKind.i64.wrap (1 - n) = a) : Calls Tryz.prog 17 #[.agg (M.rc s).all, .int .i64 n, .int .i64 k] w (RefSaid w M { s with n := s.n.deliver a n k } (K + 1) (fun v => .tuple #[v, .bool (s.n.isAt a n k)])) := by
  have hlt := h.lt
  have hlen := h.len
  have hfits := M.fits s
  obtain ⟨C, hC⟩ : ∃ C, (M.rc s).all = C := ⟨_, rfl⟩
  have HCS := Lib.hid (show C.size = 27 from by rw [← hC]; exact (M.fits s).size)
  have HCO := Lib.hid (show C.all (·.oneCell') = true from by rw [← hC]; exact (M.fits s).all)
  obtain ⟨w2, hw2⟩ : ∃ w2, (w.alloc (.cells C 35)).alloc (.cells z27 35) = w2 := ⟨_, rfl⟩
  obtain ⟨hrw, hz⟩ := h.begin z27 35
  rw [hC, hw2] at hrw hz
  unfold z27 at hw2
  have HW := Lib.hid hw2
  have HRW := Lib.hid hrw
  have HZ := Lib.hid hz
  have HBX := Lib.hid (show w2.heap[w.heap.size]? = some (.cells C 35 (0, 0)) from by rw [← hC]; exact hrw.box)
  have HC := Lib.hid hC
  have HB2 := Lib.hid hrw.below
  rw [hC]
  obtain ⟨N0, hN0⟩ : ∃ N0, (M.net s.n).toArray = N0 := ⟨_, rfl⟩
  have hbxr := hrw.box.n hfits
  have hnet := hrw.is.net
  rw [hN0] at hnet
  have hcall := Net.ref_deliver hnet a n k (by omega)
  have HCALL := Lib.hid hcall
  have HN0 := Lib.hid hN0
  have HBXN := Lib.hid (show w2.rangeAt w.heap.size 24 (M.net s.n) from hbxr)
  have HLT := Lib.hid hlt
  have HF := Lib.hid hfits
  have HLEN := Lib.hid hlen
  clear hC hw2 hrw hz h hlt hfits hbxr hnet hcall hN0 hlen
  go_enter Tryz.func17, Tryz.ntmps17
  go_upto_region 1 with fail
  rw [HW.out]
  go_wp2_with (refine wpList_load_mid rfl 33 _ rfl w.heap.size 24 rfl (M.net s.n) _ HBXN.out Tryz.underlying33 rfl infoN ?_; rw [HN0.out])
  refine (HCALL.out).mono ?_
  rintro e w3 ⟨v', W', c', ws', G', rfl, hn3, hl3, hG3, hb3⟩
  obtain ⟨N1, hN1⟩ : ∃ N1, ((M.setN G' W' c' ws').net (s.n.deliver a n k)).toArray = N1 := ⟨_, rfl⟩
  have hv := hn3.v
  rw [show v' = .agg N1 from by rw [hv, ← hN1]; rfl] at hn3 ⊢
  have HNS := Lib.hid (show N1.size = 3 from by rw [← hN1]; rfl)
  have HNO := Lib.hid (show N1.all (·.oneCell') = true from by rw [← hN1]; simp [RM.net, Value.oneCell'])
  have HN1 := Lib.hid hN1
  have HR3 := Lib.hid (HRW.out.after hb3)
  have HN3 := Lib.hid hn3
  have HG3 := Lib.hid (And.intro hl3 hG3)
  have HB3 := Lib.hid hb3
  clear hn3 hl3 hG3 hb3 hN1 hv
  go_wp2_with (first | (refine wpList_load_row rfl 35 _ rfl w.heap.size rfl 35 R (0, 0) _ HBX6.out Tryz.underlying35 rfl (by rw [HRS6.out]; exact infoP) ?_) | (refine wpList_load_row rfl 33 _ rfl w3.heap.size rfl 33 N1 (0, 0) _ HQ5.out Tryz.underlying33 rfl (by rw [HNS.out]; exact infoN) ?_) | (refine wpList_store_all rfl 35 _ _ rfl (w.heap.size + 1) z27 R 35 rfl rfl HZ6.out (by rw [HRS6.out]; rfl) (by rw [HRS6.out]; exact infoP) HRO6.out ?_; intro w9 hq9 hk9) | (refine wpList_store_all rfl 33 _ _ rfl w3.heap.size zero3 N1 33 rfl rfl (heap_alloc_new w3 _) (by rw [HNS.out]; rfl) (by rw [HNS.out]; exact infoN) HNO.out ?_; intro w5 hq5 hk5; have hb5 : Below w3.heap.size w3 w5 := ((Below.refl _ _).alloc (Nat.le_refl _) _).trans (hk5.below (by simp) (by simp)); have HR5 := Lib.hid (HR3.out.after hb5); have HB5 := Lib.hid hb5; have HQ5 := Lib.hid hq5; have HS5 := Lib.hid (HR5.out.box.setN HF.out (x := N1.toList) (by simpa using HNS.out)); clear hq5 hk5 hb5) | (refine wpList_store_mid rfl 33 _ _ rfl w.heap.size 24 N1 rfl rfl (by have h := HS5.out.1; rw [Array.length_toList, HNS.out] at h; rw [HNS.out]; exact h) (by rw [HNS.out]; exact infoN) HNO.out ?_; have hbx6 := HS5.out.2.1; have hk6 := HS5.out.2.2; generalize w5.setCells w.heap.size 24 N1.toList = w6 at hbx6 hk6 ⊢; obtain ⟨R, hR⟩ : ∃ R, RC.all { M.rc s with n := N1.toList } = R := ⟨_, rfl⟩; unfold RBox at hbx6; rw [hR] at hbx6; have hfit6 := (M.setN G' W' c' ws').fits { s with n := s.n.deliver a n k }; have hR6 : ((M.setN G' W' c' ws').rc { s with n := s.n.deliver a n k }).all = R := (by rw [← hR, ← HN1.out]; rfl); have HRS6 := Lib.hid (show R.size = 27 from by rw [← hR6]; exact hfit6.size); have HRO6 := Lib.hid (show R.all (·.oneCell') = true from by rw [← hR6]; exact hfit6.all); have HR6 := Lib.hid hR6; have HBX6 := Lib.hid hbx6; have HZ6 := Lib.hid (show w6.heap[w.heap.size + 1]? = some (.cells z27 35 (0, 0)) from (hk6.block _ (by have := lt_of_block HZ.out; have := HB3.out.size; have := HB5.out.size; omega) (by simp)).trans ((HB5.out.block _ (by have := lt_of_block HZ.out; have := HB3.out.size; omega)).trans ((HB3.out.block _ (lt_of_block HZ.out)).trans HZ.out))); have HK6 := Lib.hid hk6; clear hbx6 hk6 hR hfit6 hR6))
  refine ret_row2 Tryz.results17 (w.heap.size + 1) _ _ _ (.bool (s.n.isAt a n k)) rfl hq9 rfl Tryz.underlying35 rfl (by rw [HRS6.out]; exact infoP) rfl ?_
  have hs2 := lt_of_block HZ.out
  have hs3 := HB3.out.size
  have hs5 := HB5.out.size
  have hrn := ((HR3.out.is.setN HN3.out (J := K + 1) (by have := HG3.out.1; have := HLEN.out; omega)).after HB5.out).kept HK6.out (fun k hk => by
    simp only [List.mem_singleton]
    rintro rfl
    rcases RM.setN_all M G' W' c' ws' hk with h1 | h1
    · rcases HG3.out.2 _ h1 with h2 | h2
      · exact absurd (HLT.out _ (RM.mem_G h2)) (by omega)
      · omega
    · exact absurd (HLT.out _ h1) (by omega))
  refine RefSaid.mk' (f := fun v => .tuple #[v, .bool (s.n.isAt a n k)]) hrn HR6.out (HR5.out.below.trans (HK6.out.below (by omega) (by simp))) hk9 (fun k hk => ?_) HLT.out
  rcases RM.setN_all M G' W' c' ws' hk with h1 | h1
  · rcases HG3.out.2 k h1 with h2 | h2
    · exact .inl (RM.mem_G h2)
    · exact .inr (by omega)
  · exact .inl h1
set_option maxRecDepth 100000 in
set_option maxHeartbeats 4000000 in
theorem ref_double (h : RIs w M s K) (hK : K ≤ 900) (n a k : Int) (ha : IntKind.i64.wrap (1 - n) = a) : Calls Tryz.prog 19 #[.agg (M.rc s).all, .int .i64 n, .int .i64 k] w (RefSaid w M { s with n := s.n.double a n k } (K + 1) (fun v => .tuple #[v, .bool (s.n.doubleOk a n k)])) := by
  have hlt := h.lt
  have hlen := h.len
  have hfits := M.fits s
  obtain ⟨C, hC⟩ : ∃ C, (M.rc s).all = C := ⟨_, rfl⟩
  have HCS := Lib.hid (show C.size = 27 from by rw [← hC]; exact (M.fits s).size)
  have HCO := Lib.hid (show C.all (·.oneCell') = true from by rw [← hC]; exact (M.fits s).all)
  obtain ⟨w2, hw2⟩ : ∃ w2, (w.alloc (.cells C 35)).alloc (.cells z27 35) = w2 := ⟨_, rfl⟩
  obtain ⟨hrw, hz⟩ := h.begin z27 35
  rw [hC, hw2] at hrw hz
  unfold z27 at hw2
  have HW := Lib.hid hw2
  have HRW := Lib.hid hrw
  have HZ := Lib.hid hz
  have HBX := Lib.hid (show w2.heap[w.heap.size]? = some (.cells C 35 (0, 0)) from by rw [← hC]; exact hrw.box)
  have HC := Lib.hid hC
  have HB2 := Lib.hid hrw.below
  rw [hC]
  obtain ⟨N0, hN0⟩ : ∃ N0, (M.net s.n).toArray = N0 := ⟨_, rfl⟩
  have hbxr := hrw.box.n hfits
  have hnet := hrw.is.net
  rw [hN0] at hnet
  have hcall := Net.ref_double hnet a n k (by omega)
  have HCALL := Lib.hid hcall
  have HN0 := Lib.hid hN0
  have HBXN := Lib.hid (show w2.rangeAt w.heap.size 24 (M.net s.n) from hbxr)
  have HLT := Lib.hid hlt
  have HF := Lib.hid hfits
  have HLEN := Lib.hid hlen
  clear hC hw2 hrw hz h hlt hfits hbxr hnet hcall hN0 hlen
  go_enter Tryz.func19, Tryz.ntmps19
  go_upto_region 1 with fail
  rw [HW.out]
  go_wp2_with (refine wpList_load_mid rfl 33 _ rfl w.heap.size 24 rfl (M.net s.n) _ HBXN.out Tryz.underlying33 rfl infoN ?_; rw [HN0.out])
  refine (HCALL.out).mono ?_
  rintro e w3 ⟨v', W', c', ws', G', rfl, hn3, hl3, hG3, hb3⟩
  obtain ⟨N1, hN1⟩ : ∃ N1, ((M.setN G' W' c' ws').net (s.n.double a n k)).toArray = N1 := ⟨_, rfl⟩
  have hv := hn3.v
  rw [show v' = .agg N1 from by rw [hv, ← hN1]; rfl] at hn3 ⊢
  have HNS := Lib.hid (show N1.size = 3 from by rw [← hN1]; rfl)
  have HNO := Lib.hid (show N1.all (·.oneCell') = true from by rw [← hN1]; simp [RM.net, Value.oneCell'])
  have HN1 := Lib.hid hN1
  have HR3 := Lib.hid (HRW.out.after hb3)
  have HN3 := Lib.hid hn3
  have HG3 := Lib.hid (And.intro hl3 hG3)
  have HB3 := Lib.hid hb3
  clear hn3 hl3 hG3 hb3 hN1 hv
  go_wp2_with (first | (refine wpList_load_row rfl 35 _ rfl w.heap.size rfl 35 R (0, 0) _ HBX6.out Tryz.underlying35 rfl (by rw [HRS6.out]; exact infoP) ?_) | (refine wpList_load_row rfl 33 _ rfl w3.heap.size rfl 33 N1 (0, 0) _ HQ5.out Tryz.underlying33 rfl (by rw [HNS.out]; exact infoN) ?_) | (refine wpList_store_all rfl 35 _ _ rfl (w.heap.size + 1) z27 R 35 rfl rfl HZ6.out (by rw [HRS6.out]; rfl) (by rw [HRS6.out]; exact infoP) HRO6.out ?_; intro w9 hq9 hk9) | (refine wpList_store_all rfl 33 _ _ rfl w3.heap.size zero3 N1 33 rfl rfl (heap_alloc_new w3 _) (by rw [HNS.out]; rfl) (by rw [HNS.out]; exact infoN) HNO.out ?_; intro w5 hq5 hk5; have hb5 : Below w3.heap.size w3 w5 := ((Below.refl _ _).alloc (Nat.le_refl _) _).trans (hk5.below (by simp) (by simp)); have HR5 := Lib.hid (HR3.out.after hb5); have HB5 := Lib.hid hb5; have HQ5 := Lib.hid hq5; have HS5 := Lib.hid (HR5.out.box.setN HF.out (x := N1.toList) (by simpa using HNS.out)); clear hq5 hk5 hb5) | (refine wpList_store_mid rfl 33 _ _ rfl w.heap.size 24 N1 rfl rfl (by have h := HS5.out.1; rw [Array.length_toList, HNS.out] at h; rw [HNS.out]; exact h) (by rw [HNS.out]; exact infoN) HNO.out ?_; have hbx6 := HS5.out.2.1; have hk6 := HS5.out.2.2; generalize w5.setCells w.heap.size 24 N1.toList = w6 at hbx6 hk6 ⊢; obtain ⟨R, hR⟩ : ∃ R, RC.all { M.rc s with n := N1.toList } = R := ⟨_, rfl⟩; unfold RBox at hbx6; rw [hR] at hbx6; have hfit6 := (M.setN G' W' c' ws').fits { s with n := s.n.double a n k }; have hR6 : ((M.setN G' W' c' ws').rc { s with n := s.n.double a n k }).all = R := (by rw [← hR, ← HN1.out]; rfl); have HRS6 := Lib.hid (show R.size = 27 from by rw [← hR6]; exact hfit6.size); have HRO6 := Lib.hid (show R.all (·.oneCell') = true from by rw [← hR6]; exact hfit6.all); have HR6 := Lib.hid hR6; have HBX6 := Lib.hid hbx6; have HZ6 := Lib.hid (show w6.heap[w.heap.size + 1]? = some (.cells z27 35 (0, 0)) from (hk6.block _ (by have := lt_of_block HZ.out; have := HB3.out.size; have := HB5.out.size; omega) (by simp)).trans ((HB5.out.block _ (by have := lt_of_block HZ.out; have := HB3.out.size; omega)).trans ((HB3.out.block _ (lt_of_block HZ.out)).trans HZ.out))); have HK6 := Lib.hid hk6; clear hbx6 hk6 hR hfit6 hR6))
  refine ret_row2 Tryz.results19 (w.heap.size + 1) _ _ _ (.bool (s.n.doubleOk a n k)) rfl hq9 rfl Tryz.underlying35 rfl (by rw [HRS6.out]; exact infoP) rfl ?_
  have hs2 := lt_of_block HZ.out
  have hs3 := HB3.out.size
  have hs5 := HB5.out.size
  have hrn := ((HR3.out.is.setN HN3.out (J := K + 1) (by have := HG3.out.1; have := HLEN.out; omega)).after HB5.out).kept HK6.out (fun k hk => by
    simp only [List.mem_singleton]
    rintro rfl
    rcases RM.setN_all M G' W' c' ws' hk with h1 | h1
    · rcases HG3.out.2 _ h1 with h2 | h2
      · exact absurd (HLT.out _ (RM.mem_G h2)) (by omega)
      · omega
    · exact absurd (HLT.out _ h1) (by omega))
  refine RefSaid.mk' (f := fun v => .tuple #[v, .bool (s.n.doubleOk a n k)]) hrn HR6.out (HR5.out.below.trans (HK6.out.below (by omega) (by simp))) hk9 (fun k hk => ?_) HLT.out
  rcases RM.setN_all M G' W' c' ws' hk with h1 | h1
  · rcases HG3.out.2 k h1 with h2 | h2
    · exact .inl (RM.mem_G h2)
    · exact .inr (by omega)
  · exact .inl h1
set_option maxRecDepth 100000 in
set_option maxHeartbeats 4000000 in
theorem ref_flip (h : RIs w M s K) (hK : K ≤ 900) (n a k bit : Int) (hb1 : -9223372036854775808 ≤ bit) (hb2 : bit ≤ 9223372036854775807) (hbig : (s.n.look a n k).size ≤ 1000000) (ha : IntKind.i64.wrap (1 - n) = a) : Calls Tryz.prog 21 #[.agg (M.rc s).all, .int .i64 n, .int .i64 k, .int .i64 bit] w (RefSaid w M { s with n := s.n.flip a n k bit } (K + 1) (fun v => .tuple #[v, .bool (s.n.flipOk a n k)])) := by
  have hlt := h.lt
  have hlen := h.len
  have hfits := M.fits s
  obtain ⟨C, hC⟩ : ∃ C, (M.rc s).all = C := ⟨_, rfl⟩
  have HCS := Lib.hid (show C.size = 27 from by rw [← hC]; exact (M.fits s).size)
  have HCO := Lib.hid (show C.all (·.oneCell') = true from by rw [← hC]; exact (M.fits s).all)
  obtain ⟨w2, hw2⟩ : ∃ w2, (w.alloc (.cells C 35)).alloc (.cells z27 35) = w2 := ⟨_, rfl⟩
  obtain ⟨hrw, hz⟩ := h.begin z27 35
  rw [hC, hw2] at hrw hz
  unfold z27 at hw2
  have HW := Lib.hid hw2
  have HRW := Lib.hid hrw
  have HZ := Lib.hid hz
  have HBX := Lib.hid (show w2.heap[w.heap.size]? = some (.cells C 35 (0, 0)) from by rw [← hC]; exact hrw.box)
  have HC := Lib.hid hC
  have HB2 := Lib.hid hrw.below
  rw [hC]
  obtain ⟨N0, hN0⟩ : ∃ N0, (M.net s.n).toArray = N0 := ⟨_, rfl⟩
  have hbxr := hrw.box.n hfits
  have hnet := hrw.is.net
  rw [hN0] at hnet
  have hcall := Net.ref_flip hnet a n k bit hb1 hb2 hbig (by omega)
  have HCALL := Lib.hid hcall
  have HN0 := Lib.hid hN0
  have HBXN := Lib.hid (show w2.rangeAt w.heap.size 24 (M.net s.n) from hbxr)
  have HLT := Lib.hid hlt
  have HF := Lib.hid hfits
  have HLEN := Lib.hid hlen
  clear hC hw2 hrw hz h hlt hfits hbxr hnet hcall hN0 hlen
  go_enter Tryz.func21, Tryz.ntmps21
  go_upto_region 1 with fail
  rw [HW.out]
  go_wp2_with (refine wpList_load_mid rfl 33 _ rfl w.heap.size 24 rfl (M.net s.n) _ HBXN.out Tryz.underlying33 rfl infoN ?_; rw [HN0.out])
  refine (HCALL.out).mono ?_
  rintro e w3 ⟨v', W', c', ws', G', rfl, hn3, hl3, hG3, hb3⟩
  obtain ⟨N1, hN1⟩ : ∃ N1, ((M.setN G' W' c' ws').net (s.n.flip a n k bit)).toArray = N1 := ⟨_, rfl⟩
  have hv := hn3.v
  rw [show v' = .agg N1 from by rw [hv, ← hN1]; rfl] at hn3 ⊢
  have HNS := Lib.hid (show N1.size = 3 from by rw [← hN1]; rfl)
  have HNO := Lib.hid (show N1.all (·.oneCell') = true from by rw [← hN1]; simp [RM.net, Value.oneCell'])
  have HN1 := Lib.hid hN1
  have HR3 := Lib.hid (HRW.out.after hb3)
  have HN3 := Lib.hid hn3
  have HG3 := Lib.hid (And.intro hl3 hG3)
  have HB3 := Lib.hid hb3
  clear hn3 hl3 hG3 hb3 hN1 hv
  go_wp2_with (first | (refine wpList_load_row rfl 35 _ rfl w.heap.size rfl 35 R (0, 0) _ HBX6.out Tryz.underlying35 rfl (by rw [HRS6.out]; exact infoP) ?_) | (refine wpList_load_row rfl 33 _ rfl w3.heap.size rfl 33 N1 (0, 0) _ HQ5.out Tryz.underlying33 rfl (by rw [HNS.out]; exact infoN) ?_) | (refine wpList_store_all rfl 35 _ _ rfl (w.heap.size + 1) z27 R 35 rfl rfl HZ6.out (by rw [HRS6.out]; rfl) (by rw [HRS6.out]; exact infoP) HRO6.out ?_; intro w9 hq9 hk9) | (refine wpList_store_all rfl 33 _ _ rfl w3.heap.size zero3 N1 33 rfl rfl (heap_alloc_new w3 _) (by rw [HNS.out]; rfl) (by rw [HNS.out]; exact infoN) HNO.out ?_; intro w5 hq5 hk5; have hb5 : Below w3.heap.size w3 w5 := ((Below.refl _ _).alloc (Nat.le_refl _) _).trans (hk5.below (by simp) (by simp)); have HR5 := Lib.hid (HR3.out.after hb5); have HB5 := Lib.hid hb5; have HQ5 := Lib.hid hq5; have HS5 := Lib.hid (HR5.out.box.setN HF.out (x := N1.toList) (by simpa using HNS.out)); clear hq5 hk5 hb5) | (refine wpList_store_mid rfl 33 _ _ rfl w.heap.size 24 N1 rfl rfl (by have h := HS5.out.1; rw [Array.length_toList, HNS.out] at h; rw [HNS.out]; exact h) (by rw [HNS.out]; exact infoN) HNO.out ?_; have hbx6 := HS5.out.2.1; have hk6 := HS5.out.2.2; generalize w5.setCells w.heap.size 24 N1.toList = w6 at hbx6 hk6 ⊢; obtain ⟨R, hR⟩ : ∃ R, RC.all { M.rc s with n := N1.toList } = R := ⟨_, rfl⟩; unfold RBox at hbx6; rw [hR] at hbx6; have hfit6 := (M.setN G' W' c' ws').fits { s with n := s.n.flip a n k bit }; have hR6 : ((M.setN G' W' c' ws').rc { s with n := s.n.flip a n k bit }).all = R := (by rw [← hR, ← HN1.out]; rfl); have HRS6 := Lib.hid (show R.size = 27 from by rw [← hR6]; exact hfit6.size); have HRO6 := Lib.hid (show R.all (·.oneCell') = true from by rw [← hR6]; exact hfit6.all); have HR6 := Lib.hid hR6; have HBX6 := Lib.hid hbx6; have HZ6 := Lib.hid (show w6.heap[w.heap.size + 1]? = some (.cells z27 35 (0, 0)) from (hk6.block _ (by have := lt_of_block HZ.out; have := HB3.out.size; have := HB5.out.size; omega) (by simp)).trans ((HB5.out.block _ (by have := lt_of_block HZ.out; have := HB3.out.size; omega)).trans ((HB3.out.block _ (lt_of_block HZ.out)).trans HZ.out))); have HK6 := Lib.hid hk6; clear hbx6 hk6 hR hfit6 hR6))
  refine ret_row2 Tryz.results21 (w.heap.size + 1) _ _ _ (.bool (s.n.flipOk a n k)) rfl hq9 rfl Tryz.underlying35 rfl (by rw [HRS6.out]; exact infoP) rfl ?_
  have hs2 := lt_of_block HZ.out
  have hs3 := HB3.out.size
  have hs5 := HB5.out.size
  have hrn := ((HR3.out.is.setN HN3.out (J := K + 1) (by have := HG3.out.1; have := HLEN.out; omega)).after HB5.out).kept HK6.out (fun k hk => by
    simp only [List.mem_singleton]
    rintro rfl
    rcases RM.setN_all M G' W' c' ws' hk with h1 | h1
    · rcases HG3.out.2 _ h1 with h2 | h2
      · exact absurd (HLT.out _ (RM.mem_G h2)) (by omega)
      · omega
    · exact absurd (HLT.out _ h1) (by omega))
  refine RefSaid.mk' (f := fun v => .tuple #[v, .bool (s.n.flipOk a n k)]) hrn HR6.out (HR5.out.below.trans (HK6.out.below (by omega) (by simp))) hk9 (fun k hk => ?_) HLT.out
  rcases RM.setN_all M G' W' c' ws' hk with h1 | h1
  · rcases HG3.out.2 k h1 with h2 | h2
    · exact .inl (RM.mem_G h2)
    · exact .inr (by omega)
  · exact .inl h1
end
end Go.Proofs.YtihhflajkohibaaGreatDoor.Pipe
/- Layer 10, the reference: time goes on for an end. Conditions: the value's rows lie (RIs). -/
namespace Go.Proofs.YtihhflajkohibaaGreatDoor.Pipe
set_option linter.unusedSimpArgs false
set_option linter.unusedVariables false
set_option maxRecDepth 100000
open Go.RowKit
open Go.Proofs.YtihhflajkohibaaGreatDoor
open Go.Proofs.YtihhflajkohibaaGreatDoor.Link (LE Fr zero11 Low ends)
open Go.Proofs.YtihhflajkohibaaGreatDoor.Net (NS RefNet)
section
variable {w : World} {M : RM} {s : PS} {K : Nat}
theorem RM.setE_self (h : RIs w M s K) (me : Bool) (z : LE) (hz : z.bodies = (s.e me).bodies) (hk : z.Ok) : RIs w (M.setE me (M.A me) (M.c me) (M.L me)) { s with e := up s.e me z } K := h.setE me ((h.low me).same hz) hk (fun k hk => h.lt k (RM.mem_L hk))
set_option maxRecDepth 100000 in
set_option maxHeartbeats 4000000 in
theorem ref_tick_false (h : RIs w M s K) : Calls Tryz.prog 13 #[.agg (M.rc s).all, .int .i64 0] w (RefSaid w M (s.tick false) K (fun v => v)) := by
  have hlt := h.lt
  obtain ⟨C, hC⟩ : ∃ C, (M.rc s).all = C := ⟨_, rfl⟩
  have HCS := Lib.hid (show C.size = 27 from by rw [← hC]; exact (M.fits s).size)
  have HCO := Lib.hid (show C.all (·.oneCell') = true from by rw [← hC]; exact (M.fits s).all)
  obtain ⟨w2, hw2⟩ : ∃ w2, (w.alloc (.cells C 35)).alloc (.cells z27 35) = w2 := ⟨_, rfl⟩
  obtain ⟨hrw, hz⟩ := h.begin z27 35
  rw [hC, hw2] at hrw hz
  unfold z27 at hw2
  have HW := Lib.hid hw2
  have HRW := Lib.hid hrw
  have HZ := Lib.hid hz
  have HBX := Lib.hid (show w2.heap[w.heap.size]? = some (.cells C 35 (0, 0)) from by rw [← hC]; exact hrw.box)
  have HC := Lib.hid hC
  have HB2 := Lib.hid hrw.below
  rw [hC]
  obtain ⟨E0, hE0⟩ : ∃ E0, ends (s.e false) (M.A false) (M.c false) = E0 := ⟨_, rfl⟩
  obtain ⟨E1, hE1⟩ : ∃ E1, ends (s.e false).ticked (M.A false) (M.c false) = E1 := ⟨_, rfl⟩
  obtain ⟨R, hR⟩ : ∃ R, ((M.setE false (M.A false) (M.c false) (M.L false)).rc (s.tick false)).all = R := ⟨_, rfl⟩
  have hfits := (M.setE false (M.A false) (M.c false) (M.L false)).fits (s.tick false)
  have HRS := Lib.hid (show R.size = 27 from by rw [← hR]; exact hfits.size)
  have HRO := Lib.hid (show R.all (·.oneCell') = true from by rw [← hR]; exact hfits.all)
  have hend : ∀ v, Calls Tryz.prog 26 #[.agg C, .int .i64 0] v fun e v' => e = .returned (.agg E0) ∧ Below v.heap.size v v' := fun v => by
    have := ref_end (M.rc s) (M.fits s) 0 E0 (by rw [← hE0]; rfl) v
    rwa [hC] at this
  have htk : ∀ v, Calls Tryz.prog 46 #[.agg E0] v fun e v' => e = .returned (.agg E1) ∧ Below v.heap.size v v' := fun v => by
    have := Link.ref_tick (w := v) (h.ok false) (M.A false) (M.c false)
    rwa [hE0, hE1] at this
  have hwith : ∀ v, Calls Tryz.prog 37 #[.agg C, .int .i64 0, .agg E1] v fun e v' => e = .returned (.agg R) ∧ Below v.heap.size v v' := fun v => by
    have hes : E1.size = 11 := by rw [← hE1]; rfl
    have heo : E1.all (·.oneCell') = true := by rw [← hE1]; simp [ends, Value.oneCell']
    have := ref_with (M.rc s) (M.fits s) 0 E1.toList (by simpa using hes) (fun u hu => (Array.all_eq_true_iff_forall_mem.1 heo) u (by simpa using hu)) R (by rw [← hR, ← hE1]; exact congrArg RC.all (M.setE_rc s false _ _ _ (s.e false).ticked)) v
    have hxe : E1.toList.toArray = E1 := by simp
    rwa [hC, hxe] at this
  have HEND := Lib.hid hend
  have HTK := Lib.hid htk
  have HWITH := Lib.hid hwith
  have HRR := Lib.hid hR
  have HLT := Lib.hid hlt
  have HIS := Lib.hid (RM.setE_self hrw.is false (s.e false).ticked (by unfold LE.ticked; split <;> (try split) <;> rfl) ((h.ok false).ticked))
  clear hC hw2 hrw hz h hE0 hE1 hR hfits hend htk hwith hlt
  go_enter Tryz.func13, Tryz.ntmps13
  go_upto_region 1 with fail
  rw [HW.out]
  go_wp2_with fail
  refine' wp_flow [only 0 (.agg C), only 1 _, only 2 (.agg C), only 3 _, only 4 (.agg E0), only 5 (.agg E1), only 6 (.agg R), (fun _ v => v.heap[w.heap.size + 1]? = some (.cells R 35 (0, 0))), (fun _ v => v.heap[w.heap.size + 1]? = some (.cells z27 35 (0, 0)))] (fun v => Kept [w.heap.size + 1] w2 v) [[], [], [], [], [2, 3], [4], [0, 1, 5], [6, 8]] [[], [], [], [], [], [], [], [8]] [[], [], [], [], [], [], [], []] [[8], [8], [8], [8], [8], [8], [8], []] [7, 8] [0, 0, 0, 0, 12, 28, 63, 127] _ (fun us => ?hfr) (by kernel_rfl) (by kernel_rfl) (by kernel_rfl) ⟨only_still _, only_still _, only_still _, only_still _, only_still _, only_still _, only_still _, trivial, trivial, trivial⟩ ((Kept.refl _ w2).drew) (by simp) (HZ.out) ?hst ?hla
  case hfr => (simp only [List.cons_append, List.nil_append, putAll, Act.put, List.setIfInBounds_toArray, List.set_cons_zero, List.set_cons_succ, Nat.reduceAdd]; rfl)
  case hst =>
    refine ⟨?_, ?_, ?_, ?_, ?_, ?_, ?_, ?_, trivial⟩
    · intro us v hR hn ho K hK
      clear ho
      have hbx : v.heap[w.heap.size]? = some (.cells C 35 (0, 0)) := (hR.block _ (lt_of_block HBX.out) (by simp)).trans HBX.out
      have hcs : (Tryz.prog.info? 35).map (·.size) = some C.size := by rw [HCS.out]; exact infoP
      rw [if_pos (by rfl)]
      refine wp_load_row 35 _ (by rfl) w.heap.size (by rfl) 35 C (0, 0) _ hbx Tryz.underlying35 rfl hcs ?_
      refine hK _ _ _ (by simp only [Act.put, List.setIfInBounds_toArray, List.set_cons_zero, List.set_cons_succ, Nat.reduceAdd] <;> rfl) ?_ hR ⟨fun h => h, trivial⟩
      exact only_mk (v := v) rfl
    · intro us v hR hn ho K hK
      clear ho
      have hbx : v.heap[w.heap.size]? = some (.cells C 35 (0, 0)) := (hR.block _ (lt_of_block HBX.out) (by simp)).trans HBX.out
      rw [if_pos (by rfl)]
      go_simp
      refine hK _ _ _ (by simp only [Act.put, List.setIfInBounds_toArray, List.set_cons_zero, List.set_cons_succ, Nat.reduceAdd] <;> rfl) ?_ hR ⟨fun h => h, trivial⟩
      refine only_mk (v := v) ?_
      with_reducible rfl
    · intro us v hR hn ho K hK
      clear ho
      have hbx : v.heap[w.heap.size]? = some (.cells C 35 (0, 0)) := (hR.block _ (lt_of_block HBX.out) (by simp)).trans HBX.out
      have hcs : (Tryz.prog.info? 35).map (·.size) = some C.size := by rw [HCS.out]; exact infoP
      rw [if_pos (by rfl)]
      refine wp_load_row 35 _ (by rfl) w.heap.size (by rfl) 35 C (0, 0) _ hbx Tryz.underlying35 rfl hcs ?_
      refine hK _ _ _ (by simp only [Act.put, List.setIfInBounds_toArray, List.set_cons_zero, List.set_cons_succ, Nat.reduceAdd] <;> rfl) ?_ hR ⟨fun h => h, trivial⟩
      exact only_mk (v := v) rfl
    · intro us v hR hn ho K hK
      clear ho
      have hbx : v.heap[w.heap.size]? = some (.cells C 35 (0, 0)) := (hR.block _ (lt_of_block HBX.out) (by simp)).trans HBX.out
      rw [if_pos (by rfl)]
      go_simp
      refine hK _ _ _ (by simp only [Act.put, List.setIfInBounds_toArray, List.set_cons_zero, List.set_cons_succ, Nat.reduceAdd] <;> rfl) ?_ hR ⟨fun h => h, trivial⟩
      refine only_mk (v := v) ?_
      with_reducible rfl
    · intro us v hR hn ho K hK
      obtain ⟨n2, n3, -⟩ := hn
      have n2 : us 2 = _ := n2
      have n3 : us 3 = _ := n3
      clear ho
      have hbx : v.heap[w.heap.size]? = some (.cells C 35 (0, 0)) := (hR.block _ (lt_of_block HBX.out) (by simp)).trans HBX.out
      rw [if_pos (by rfl)]
      clear hbx
      go_simp
      refine (HEND.out v).mono ?_
      rintro e v' ⟨rfl, hb'⟩
      dsimp only
      refine hK _ _ _ (by simp only [Act.put, List.setIfInBounds_toArray, List.set_cons_zero, List.set_cons_succ, Nat.reduceAdd, n2, n3] <;> rfl) ?_ (hR.trans (Kept.of_below hb' [w.heap.size + 1])) ⟨fun h => (hb'.block _ (lt_of_block h)).trans h, trivial⟩
      exact only_mk (v := v') rfl
    · intro us v hR hn ho K hK
      obtain ⟨n4, -⟩ := hn
      have n4 : us 4 = _ := n4
      clear ho
      have hbx : v.heap[w.heap.size]? = some (.cells C 35 (0, 0)) := (hR.block _ (lt_of_block HBX.out) (by simp)).trans HBX.out
      rw [if_pos (by rfl)]
      clear hbx
      go_simp
      refine (HTK.out v).mono ?_
      rintro e v' ⟨rfl, hb'⟩
      dsimp only
      refine hK _ _ _ (by simp only [Act.put, List.setIfInBounds_toArray, List.set_cons_zero, List.set_cons_succ, Nat.reduceAdd, n4] <;> rfl) ?_ (hR.trans (Kept.of_below hb' [w.heap.size + 1])) ⟨fun h => (hb'.block _ (lt_of_block h)).trans h, trivial⟩
      exact only_mk (v := v') rfl
    · intro us v hR hn ho K hK
      obtain ⟨n0, n1, n5, -⟩ := hn
      have n0 : us 0 = _ := n0
      have n1 : us 1 = _ := n1
      have n5 : us 5 = _ := n5
      clear ho
      have hbx : v.heap[w.heap.size]? = some (.cells C 35 (0, 0)) := (hR.block _ (lt_of_block HBX.out) (by simp)).trans HBX.out
      rw [if_pos (by rfl)]
      clear hbx
      go_simp
      refine (HWITH.out v).mono ?_
      rintro e v' ⟨rfl, hb'⟩
      dsimp only
      refine hK _ _ _ (by simp only [Act.put, List.setIfInBounds_toArray, List.set_cons_zero, List.set_cons_succ, Nat.reduceAdd, n0, n1, n5] <;> rfl) ?_ (hR.trans (Kept.of_below hb' [w.heap.size + 1])) ⟨fun h => (hb'.block _ (lt_of_block h)).trans h, trivial⟩
      exact only_mk (v := v') rfl
    · intro us v hR hn ho K hK
      obtain ⟨n6, ns, -⟩ := hn
      have n6 : us 6 = _ := n6
      clear ho
      have hbx : v.heap[w.heap.size]? = some (.cells C 35 (0, 0)) := (hR.block _ (lt_of_block HBX.out) (by simp)).trans HBX.out
      rw [if_pos (by rfl)]
      refine wp_store_all 35 (.tmp 4) (.tmp 18) (by rfl) (w.heap.size + 1) _ _ _ (by rfl) n6 ns (by rw [HRS.out]; rfl) (by rw [HRS.out]; exact infoP) HRO.out ?_
      intro v' hq hk
      exact hK undef _ _ (by simp only [Act.put, List.setIfInBounds_toArray, List.set_cons_zero, List.set_cons_succ, Nat.reduceAdd, n6] <;> rfl) hq (hR.trans hk) trivial
  case hla =>
    intro us v hR hl
    obtain ⟨n0, n1, n2, n3, n4, n5, n6, n7, -⟩ := need_last hl [0, 1, 2, 3, 4, 5, 6, 7] (by kernel_rfl)
    have n0 : us 0 = _ := n0
    have n1 : us 1 = _ := n1
    have n2 : us 2 = _ := n2
    have n3 : us 3 = _ := n3
    have n4 : us 4 = _ := n4
    have n5 : us 5 = _ := n5
    have n6 : us 6 = _ := n6
    have hbx : v.heap[w.heap.size]? = some (.cells C 35 (0, 0)) := (hR.block _ (lt_of_block HBX.out) (by simp)).trans HBX.out
    simp only [n0, n1, n2, n3, n4, n5, n6]
    clear hl n0 n1 n2 n3 n4 n5 n6
    go_wp2_with fail
    refine ret_row1 Tryz.results13 (w.heap.size + 1) _ _ _ rfl n7 Tryz.underlying35 rfl (by rw [HRS.out]; exact infoP) rfl ?_
    exact RefSaid.mk' (f := fun v => v) HIS.out HRR.out HB2.out hR (fun k hk => (RM.setE_all M false _ _ _ hk).elim (fun h => .inl (RM.mem_L h)) .inl) HLT.out
set_option maxRecDepth 100000 in
set_option maxHeartbeats 4000000 in
theorem ref_tick_true (h : RIs w M s K) : Calls Tryz.prog 13 #[.agg (M.rc s).all, .int .i64 1] w (RefSaid w M (s.tick true) K (fun v => v)) := by
  have hlt := h.lt
  obtain ⟨C, hC⟩ : ∃ C, (M.rc s).all = C := ⟨_, rfl⟩
  have HCS := Lib.hid (show C.size = 27 from by rw [← hC]; exact (M.fits s).size)
  have HCO := Lib.hid (show C.all (·.oneCell') = true from by rw [← hC]; exact (M.fits s).all)
  obtain ⟨w2, hw2⟩ : ∃ w2, (w.alloc (.cells C 35)).alloc (.cells z27 35) = w2 := ⟨_, rfl⟩
  obtain ⟨hrw, hz⟩ := h.begin z27 35
  rw [hC, hw2] at hrw hz
  unfold z27 at hw2
  have HW := Lib.hid hw2
  have HRW := Lib.hid hrw
  have HZ := Lib.hid hz
  have HBX := Lib.hid (show w2.heap[w.heap.size]? = some (.cells C 35 (0, 0)) from by rw [← hC]; exact hrw.box)
  have HC := Lib.hid hC
  have HB2 := Lib.hid hrw.below
  rw [hC]
  obtain ⟨E0, hE0⟩ : ∃ E0, ends (s.e true) (M.A true) (M.c true) = E0 := ⟨_, rfl⟩
  obtain ⟨E1, hE1⟩ : ∃ E1, ends (s.e true).ticked (M.A true) (M.c true) = E1 := ⟨_, rfl⟩
  obtain ⟨R, hR⟩ : ∃ R, ((M.setE true (M.A true) (M.c true) (M.L true)).rc (s.tick true)).all = R := ⟨_, rfl⟩
  have hfits := (M.setE true (M.A true) (M.c true) (M.L true)).fits (s.tick true)
  have HRS := Lib.hid (show R.size = 27 from by rw [← hR]; exact hfits.size)
  have HRO := Lib.hid (show R.all (·.oneCell') = true from by rw [← hR]; exact hfits.all)
  have hend : ∀ v, Calls Tryz.prog 26 #[.agg C, .int .i64 1] v fun e v' => e = .returned (.agg E0) ∧ Below v.heap.size v v' := fun v => by
    have := ref_end (M.rc s) (M.fits s) 1 E0 (by rw [← hE0]; rfl) v
    rwa [hC] at this
  have htk : ∀ v, Calls Tryz.prog 46 #[.agg E0] v fun e v' => e = .returned (.agg E1) ∧ Below v.heap.size v v' := fun v => by
    have := Link.ref_tick (w := v) (h.ok true) (M.A true) (M.c true)
    rwa [hE0, hE1] at this
  have hwith : ∀ v, Calls Tryz.prog 37 #[.agg C, .int .i64 1, .agg E1] v fun e v' => e = .returned (.agg R) ∧ Below v.heap.size v v' := fun v => by
    have hes : E1.size = 11 := by rw [← hE1]; rfl
    have heo : E1.all (·.oneCell') = true := by rw [← hE1]; simp [ends, Value.oneCell']
    have := ref_with (M.rc s) (M.fits s) 1 E1.toList (by simpa using hes) (fun u hu => (Array.all_eq_true_iff_forall_mem.1 heo) u (by simpa using hu)) R (by rw [← hR, ← hE1]; exact congrArg RC.all (M.setE_rc s true _ _ _ (s.e true).ticked)) v
    have hxe : E1.toList.toArray = E1 := by simp
    rwa [hC, hxe] at this
  have HEND := Lib.hid hend
  have HTK := Lib.hid htk
  have HWITH := Lib.hid hwith
  have HRR := Lib.hid hR
  have HLT := Lib.hid hlt
  have HIS := Lib.hid (RM.setE_self hrw.is true (s.e true).ticked (by unfold LE.ticked; split <;> (try split) <;> rfl) ((h.ok true).ticked))
  clear hC hw2 hrw hz h hE0 hE1 hR hfits hend htk hwith hlt
  go_enter Tryz.func13, Tryz.ntmps13
  go_upto_region 1 with fail
  rw [HW.out]
  go_wp2_with fail
  refine' wp_flow [only 0 (.agg C), only 1 _, only 2 (.agg C), only 3 _, only 4 (.agg E0), only 5 (.agg E1), only 6 (.agg R), (fun _ v => v.heap[w.heap.size + 1]? = some (.cells R 35 (0, 0))), (fun _ v => v.heap[w.heap.size + 1]? = some (.cells z27 35 (0, 0)))] (fun v => Kept [w.heap.size + 1] w2 v) [[], [], [], [], [2, 3], [4], [0, 1, 5], [6, 8]] [[], [], [], [], [], [], [], [8]] [[], [], [], [], [], [], [], []] [[8], [8], [8], [8], [8], [8], [8], []] [7, 8] [0, 0, 0, 0, 12, 28, 63, 127] _ (fun us => ?hfr) (by kernel_rfl) (by kernel_rfl) (by kernel_rfl) ⟨only_still _, only_still _, only_still _, only_still _, only_still _, only_still _, only_still _, trivial, trivial, trivial⟩ ((Kept.refl _ w2).drew) (by simp) (HZ.out) ?hst ?hla
  case hfr => (simp only [List.cons_append, List.nil_append, putAll, Act.put, List.setIfInBounds_toArray, List.set_cons_zero, List.set_cons_succ, Nat.reduceAdd]; rfl)
  case hst =>
    refine ⟨?_, ?_, ?_, ?_, ?_, ?_, ?_, ?_, trivial⟩
    · intro us v hR hn ho K hK
      clear ho
      have hbx : v.heap[w.heap.size]? = some (.cells C 35 (0, 0)) := (hR.block _ (lt_of_block HBX.out) (by simp)).trans HBX.out
      have hcs : (Tryz.prog.info? 35).map (·.size) = some C.size := by rw [HCS.out]; exact infoP
      rw [if_pos (by rfl)]
      refine wp_load_row 35 _ (by rfl) w.heap.size (by rfl) 35 C (0, 0) _ hbx Tryz.underlying35 rfl hcs ?_
      refine hK _ _ _ (by simp only [Act.put, List.setIfInBounds_toArray, List.set_cons_zero, List.set_cons_succ, Nat.reduceAdd] <;> rfl) ?_ hR ⟨fun h => h, trivial⟩
      exact only_mk (v := v) rfl
    · intro us v hR hn ho K hK
      clear ho
      have hbx : v.heap[w.heap.size]? = some (.cells C 35 (0, 0)) := (hR.block _ (lt_of_block HBX.out) (by simp)).trans HBX.out
      rw [if_pos (by rfl)]
      go_simp
      refine hK _ _ _ (by simp only [Act.put, List.setIfInBounds_toArray, List.set_cons_zero, List.set_cons_succ, Nat.reduceAdd] <;> rfl) ?_ hR ⟨fun h => h, trivial⟩
      refine only_mk (v := v) ?_
      with_reducible rfl
    · intro us v hR hn ho K hK
      clear ho
      have hbx : v.heap[w.heap.size]? = some (.cells C 35 (0, 0)) := (hR.block _ (lt_of_block HBX.out) (by simp)).trans HBX.out
      have hcs : (Tryz.prog.info? 35).map (·.size) = some C.size := by rw [HCS.out]; exact infoP
      rw [if_pos (by rfl)]
      refine wp_load_row 35 _ (by rfl) w.heap.size (by rfl) 35 C (0, 0) _ hbx Tryz.underlying35 rfl hcs ?_
      refine hK _ _ _ (by simp only [Act.put, List.setIfInBounds_toArray, List.set_cons_zero, List.set_cons_succ, Nat.reduceAdd] <;> rfl) ?_ hR ⟨fun h => h, trivial⟩
      exact only_mk (v := v) rfl
    · intro us v hR hn ho K hK
      clear ho
      have hbx : v.heap[w.heap.size]? = some (.cells C 35 (0, 0)) := (hR.block _ (lt_of_block HBX.out) (by simp)).trans HBX.out
      rw [if_pos (by rfl)]
      go_simp
      refine hK _ _ _ (by simp only [Act.put, List.setIfInBounds_toArray, List.set_cons_zero, List.set_cons_succ, Nat.reduceAdd] <;> rfl) ?_ hR ⟨fun h => h, trivial⟩
      refine only_mk (v := v) ?_
      with_reducible rfl
    · intro us v hR hn ho K hK
      obtain ⟨n2, n3, -⟩ := hn
      have n2 : us 2 = _ := n2
      have n3 : us 3 = _ := n3
      clear ho
      have hbx : v.heap[w.heap.size]? = some (.cells C 35 (0, 0)) := (hR.block _ (lt_of_block HBX.out) (by simp)).trans HBX.out
      rw [if_pos (by rfl)]
      clear hbx
      go_simp
      refine (HEND.out v).mono ?_
      rintro e v' ⟨rfl, hb'⟩
      dsimp only
      refine hK _ _ _ (by simp only [Act.put, List.setIfInBounds_toArray, List.set_cons_zero, List.set_cons_succ, Nat.reduceAdd, n2, n3] <;> rfl) ?_ (hR.trans (Kept.of_below hb' [w.heap.size + 1])) ⟨fun h => (hb'.block _ (lt_of_block h)).trans h, trivial⟩
      exact only_mk (v := v') rfl
    · intro us v hR hn ho K hK
      obtain ⟨n4, -⟩ := hn
      have n4 : us 4 = _ := n4
      clear ho
      have hbx : v.heap[w.heap.size]? = some (.cells C 35 (0, 0)) := (hR.block _ (lt_of_block HBX.out) (by simp)).trans HBX.out
      rw [if_pos (by rfl)]
      clear hbx
      go_simp
      refine (HTK.out v).mono ?_
      rintro e v' ⟨rfl, hb'⟩
      dsimp only
      refine hK _ _ _ (by simp only [Act.put, List.setIfInBounds_toArray, List.set_cons_zero, List.set_cons_succ, Nat.reduceAdd, n4] <;> rfl) ?_ (hR.trans (Kept.of_below hb' [w.heap.size + 1])) ⟨fun h => (hb'.block _ (lt_of_block h)).trans h, trivial⟩
      exact only_mk (v := v') rfl
    · intro us v hR hn ho K hK
      obtain ⟨n0, n1, n5, -⟩ := hn
      have n0 : us 0 = _ := n0
      have n1 : us 1 = _ := n1
      have n5 : us 5 = _ := n5
      clear ho
      have hbx : v.heap[w.heap.size]? = some (.cells C 35 (0, 0)) := (hR.block _ (lt_of_block HBX.out) (by simp)).trans HBX.out
      rw [if_pos (by rfl)]
      clear hbx
      go_simp
      refine (HWITH.out v).mono ?_
      rintro e v' ⟨rfl, hb'⟩
      dsimp only
      refine hK _ _ _ (by simp only [Act.put, List.setIfInBounds_toArray, List.set_cons_zero, List.set_cons_succ, Nat.reduceAdd, n0, n1, n5] <;> rfl) ?_ (hR.trans (Kept.of_below hb' [w.heap.size + 1])) ⟨fun h => (hb'.block _ (lt_of_block h)).trans h, trivial⟩
      exact only_mk (v := v') rfl
    · intro us v hR hn ho K hK
      obtain ⟨n6, ns, -⟩ := hn
      have n6 : us 6 = _ := n6
      clear ho
      have hbx : v.heap[w.heap.size]? = some (.cells C 35 (0, 0)) := (hR.block _ (lt_of_block HBX.out) (by simp)).trans HBX.out
      rw [if_pos (by rfl)]
      refine wp_store_all 35 (.tmp 4) (.tmp 18) (by rfl) (w.heap.size + 1) _ _ _ (by rfl) n6 ns (by rw [HRS.out]; rfl) (by rw [HRS.out]; exact infoP) HRO.out ?_
      intro v' hq hk
      exact hK undef _ _ (by simp only [Act.put, List.setIfInBounds_toArray, List.set_cons_zero, List.set_cons_succ, Nat.reduceAdd, n6] <;> rfl) hq (hR.trans hk) trivial
  case hla =>
    intro us v hR hl
    obtain ⟨n0, n1, n2, n3, n4, n5, n6, n7, -⟩ := need_last hl [0, 1, 2, 3, 4, 5, 6, 7] (by kernel_rfl)
    have n0 : us 0 = _ := n0
    have n1 : us 1 = _ := n1
    have n2 : us 2 = _ := n2
    have n3 : us 3 = _ := n3
    have n4 : us 4 = _ := n4
    have n5 : us 5 = _ := n5
    have n6 : us 6 = _ := n6
    have hbx : v.heap[w.heap.size]? = some (.cells C 35 (0, 0)) := (hR.block _ (lt_of_block HBX.out) (by simp)).trans HBX.out
    simp only [n0, n1, n2, n3, n4, n5, n6]
    clear hl n0 n1 n2 n3 n4 n5 n6
    go_wp2_with fail
    refine ret_row1 Tryz.results13 (w.heap.size + 1) _ _ _ rfl n7 Tryz.underlying35 rfl (by rw [HRS.out]; exact infoP) rfl ?_
    exact RefSaid.mk' (f := fun v => v) HIS.out HRR.out HB2.out hR (fun k hk => (RM.setE_all M true _ _ _ hk).elim (fun h => .inl (RM.mem_L h)) .inl) HLT.out
end
end Go.Proofs.YtihhflajkohibaaGreatDoor.Pipe
/- Layer 10, the reference: New. Conditions: the first number is a number. -/
namespace Go.Proofs.YtihhflajkohibaaGreatDoor.Pipe
set_option linter.unusedSimpArgs false
set_option linter.unusedVariables false
set_option maxRecDepth 100000
open Go.RowKit
open Go.Proofs.YtihhflajkohibaaGreatDoor
open Go.Proofs.YtihhflajkohibaaGreatDoor.Link (LE Fr zero11 Low ends)
open Go.Proofs.YtihhflajkohibaaGreatDoor.Net (NS RefNet)
def RM.nil : RM := ⟨fun _ => none, fun _ => 0, fun _ => [], fun _ => ⟨none, 0, []⟩, [], none, 0, []⟩
theorem RIs.new {w : World} {v : Value} {epoch first window queue wait room : Int} (hf : Link.u first = first) (h : RefNet w [] v (Net.new 2 room) none 0 []) : RIs w RM.nil (new epoch first window queue wait room) 0 := by
  refine ⟨fun b => ⟨by simp [Pipe.new, Link.new, RM.nil], by simp [RM.nil, maxLen], fun hn => absurd (by simp [Pipe.new, Link.new]) hn⟩, fun b => Link.new_ok _ _ _ _ _ hf, fun b => by simpa [Pipe.new, RM.nil] using Vec.nil w 1, ?_, Nat.le_refl _, fun k hk => by simp [RM.all, RM.nil] at hk⟩
  have := h.v; subst this; exact h
set_option maxRecDepth 100000 in
set_option maxHeartbeats 4000000 in
theorem ref_new (epoch first window queue wait room : Int) (hf : Link.u first = first) (w : World) : Calls Tryz.prog 7 #[.int .i64 epoch, .int .u64 first, .int .i64 window, .int .i64 queue, .int .i64 wait, .int .i64 room] w fun e w' => ∃ M, e = .returned (.agg (M.rc (new epoch first window queue wait room)).all) ∧ RIs w' M (new epoch first window queue wait room) 0 ∧ Below w.heap.size w w' ∧ M.all = [] := by
  obtain ⟨w2, hw2⟩ : ∃ w2, w.alloc (.cells z27 35) = w2 := ⟨_, rfl⟩
  have HB2 := Lib.hid (show Below w.heap.size w w2 from by rw [← hw2]; exact (Below.refl _ _).alloc (Nat.le_refl _) _)
  have HZ := Lib.hid (show w2.heap[w.heap.size]? = some (.cells z27 35 (0, 0)) from by rw [← hw2]; exact heap_alloc_new w _)
  unfold z27 at hw2
  have HW := Lib.hid hw2
  obtain ⟨e0, e1, e2, e3, e4, e5, e6, e7, e8, e9, e10, hE0⟩ : ∃ e0 e1 e2 e3 e4 e5 e6 e7 e8 e9 e10, ends (Link.new epoch first window queue wait) none 0 = #[e0, e1, e2, e3, e4, e5, e6, e7, e8, e9, e10] := ⟨_, _, _, _, _, _, _, _, _, _, _, rfl⟩
  obtain ⟨n0, n1, hN0⟩ : ∃ n0 n1, (#[.int .i64 ((Net.new 2 room).n : Int), .int .i64 ((Net.new 2 room).m : Int), .slice none 0 0] : Array Value) = #[n0, n1, .slice none 0 0] := ⟨_, _, rfl⟩
  obtain ⟨R, hR⟩ : ∃ R, (RM.nil.rc (new epoch first window queue wait room)).all = R := ⟨_, rfl⟩
  have hRe : R = #[e0, e1, e2, e3, e4, e5, e6, e7, e8, e9, e10, e0, e1, e2, e3, e4, e5, e6, e7, e8, e9, e10, .slice none 0 0, .slice none 0 0, n0, n1, .slice none 0 0] := by
    rw [← hR]
    unfold RC.all RC.l RM.rc RM.end RM.net
    simp only [new, RM.nil, hE0]
    have := congrArg Array.toList hN0
    simp at this
    simp [sl, this]
  have hfits := RM.nil.fits (new epoch first window queue wait room)
  have HRS := Lib.hid (show R.size = 27 from by rw [← hR]; exact hfits.size)
  have HRO := Lib.hid (show R.all (·.oneCell') = true from by rw [← hR]; exact hfits.all)
  have hcl := Link.ref_new epoch first window queue wait w2
  rw [hE0] at hcl
  have hne : ∀ v, Calls Tryz.prog 33 #[.int .i64 2, .int .i64 room] v fun e v' => e = .returned (.agg #[n0, n1, .slice none 0 0]) ∧ Below v.heap.size v v' ∧ ∃ x, RefNet v' [] x (Net.new 2 room) none 0 [] := fun v => by
    refine (Net.ref_new 2 room v).mono ?_
    rintro e v' ⟨x, rfl, h1, h2⟩
    refine ⟨?_, h2, _, h1⟩
    have := h1.v
    rw [this, ← hN0]; rfl
  have HEO := Lib.hid (show (#[e0, e1, e2, e3, e4, e5, e6, e7, e8, e9, e10] : Array Value).all (·.oneCell') = true from by rw [← hE0]; simp [ends, Value.oneCell'])
  have HCL := Lib.hid hcl
  have HNE := Lib.hid hne
  have HRR := Lib.hid hR
  have HRE := Lib.hid hRe
  have HF := Lib.hid hf
  clear hw2 hE0 hN0 hR hRe hfits hcl hne hf
  go_enter Tryz.func7, Tryz.ntmps7
  go_upto_region 1 with fail
  rw [HW.out]
  go_wp2_with fail
  refine (HCL.out).mono ?_
  rintro e w3 ⟨rfl, hb3⟩
  have HB3 := Lib.hid hb3
  clear hb3
  go_wp2_with (refine wpList_store_all rfl 30 _ _ rfl w3.heap.size zero11 #[e0, e1, e2, e3, e4, e5, e6, e7, e8, e9, e10] 30 rfl rfl (heap_alloc_new w3 _) rfl infoE HEO.out ?_; intro w5 hq5 hk5; have hb5 : Below w3.heap.size w3 w5 := ((Below.refl _ _).alloc (Nat.le_refl _) _).trans (hk5.below (by simp) (by simp)); have HB5 := Lib.hid hb5; have HQ5 := Lib.hid hq5; clear hq5 hk5 hb5)
  refine' wp_flow [only 0 (.agg #[e0, e1, e2, e3, e4, e5, e6, e7, e8, e9, e10]), only 1 (.agg #[e0, e1, e2, e3, e4, e5, e6, e7, e8, e9, e10]), only 2 _, (fun us v => us 3 = .agg #[n0, n1, .slice none 0 0] ∧ ∃ x, RefNet v [] x (Net.new 2 room) none 0 []), only 4 (.agg R), (fun _ v => v.heap[w.heap.size]? = some (.cells R 35 (0, 0))), (fun _ v => v.heap[w.heap.size]? = some (.cells z27 35 (0, 0)))] (fun v => Kept [w.heap.size] w5 v) [[], [], [], [2], [0, 1, 3], [4, 6]] [[], [], [], [], [], [6]] [[], [], [], [], [], []] [[3, 6], [3, 6], [6], [6], [3, 6], [3]] [3, 5, 6] [0, 0, 0, 4, 15, 31] _ (fun us => ?hfr) (by kernel_rfl) (by kernel_rfl) (by kernel_rfl) ⟨only_still _, only_still _, only_still _, trivial, only_still _, trivial, trivial, trivial⟩ ((Kept.refl _ w5).drew) (by simp) ((HB5.out.block _ (by have := lt_of_block HZ.out; have := HB3.out.size; omega)).trans ((HB3.out.block _ (lt_of_block HZ.out)).trans HZ.out)) ?hst ?hla
  case hfr => (simp only [List.cons_append, List.nil_append, putAll, Act.put, List.setIfInBounds_toArray, List.set_cons_zero, List.set_cons_succ, Nat.reduceAdd]; rfl)
  case hst =>
    refine ⟨?_, ?_, ?_, ?_, ?_, ?_, trivial⟩
    · intro us v hR hn ho K hK
      clear ho
      have hbx : v.heap[w3.heap.size]? = some (.cells #[e0, e1, e2, e3, e4, e5, e6, e7, e8, e9, e10] 30 (0, 0)) := (hR.block _ (lt_of_block HQ5.out) (by have := lt_of_block HZ.out; have := HB3.out.size; simp; omega)).trans HQ5.out
      rw [if_pos (by rfl)]
      refine wp_load_row 30 _ (by rfl) w3.heap.size (by rfl) 30 #[e0, e1, e2, e3, e4, e5, e6, e7, e8, e9, e10] (0, 0) _ hbx Tryz.underlying30 rfl infoE ?_
      refine hK _ _ _ (by simp only [Act.put, List.setIfInBounds_toArray, List.set_cons_zero, List.set_cons_succ, Nat.reduceAdd] <;> rfl) ?_ hR ⟨fun h => h, fun h => h, trivial⟩
      exact only_mk (v := v) rfl
    · intro us v hR hn ho K hK
      clear ho
      have hbx : v.heap[w3.heap.size]? = some (.cells #[e0, e1, e2, e3, e4, e5, e6, e7, e8, e9, e10] 30 (0, 0)) := (hR.block _ (lt_of_block HQ5.out) (by have := lt_of_block HZ.out; have := HB3.out.size; simp; omega)).trans HQ5.out
      rw [if_pos (by rfl)]
      refine wp_load_row 30 _ (by rfl) w3.heap.size (by rfl) 30 #[e0, e1, e2, e3, e4, e5, e6, e7, e8, e9, e10] (0, 0) _ hbx Tryz.underlying30 rfl infoE ?_
      refine hK _ _ _ (by simp only [Act.put, List.setIfInBounds_toArray, List.set_cons_zero, List.set_cons_succ, Nat.reduceAdd] <;> rfl) ?_ hR ⟨fun h => h, fun h => h, trivial⟩
      exact only_mk (v := v) rfl
    · intro us v hR hn ho K hK
      clear ho
      have hbx : v.heap[w3.heap.size]? = some (.cells #[e0, e1, e2, e3, e4, e5, e6, e7, e8, e9, e10] 30 (0, 0)) := (hR.block _ (lt_of_block HQ5.out) (by have := lt_of_block HZ.out; have := HB3.out.size; simp; omega)).trans HQ5.out
      rw [if_pos (by rfl)]
      go_simp
      refine hK _ _ _ (by simp only [Act.put, List.setIfInBounds_toArray, List.set_cons_zero, List.set_cons_succ, Nat.reduceAdd] <;> rfl) ?_ hR ⟨fun h => h, trivial⟩
      refine only_mk (v := v) ?_
      with_reducible rfl
    · intro us v hR hn ho K hK
      obtain ⟨n2, -⟩ := hn
      have n2 : us 2 = _ := n2
      clear ho
      have hbx : v.heap[w3.heap.size]? = some (.cells #[e0, e1, e2, e3, e4, e5, e6, e7, e8, e9, e10] 30 (0, 0)) := (hR.block _ (lt_of_block HQ5.out) (by have := lt_of_block HZ.out; have := HB3.out.size; simp; omega)).trans HQ5.out
      rw [if_pos (by rfl)]
      clear hbx
      go_simp
      refine (HNE.out v).mono ?_
      rintro e v' ⟨rfl, hb', hx⟩
      dsimp only
      exact hK _ _ _ (by simp only [Act.put, List.setIfInBounds_toArray, List.set_cons_zero, List.set_cons_succ, Nat.reduceAdd, n2] <;> rfl) ⟨rfl, hx⟩ (hR.trans (Kept.of_below hb' [w.heap.size])) ⟨fun h => (hb'.block _ (lt_of_block h)).trans h, trivial⟩
    · intro us v hR hn ho K hK
      obtain ⟨n0, n1, n3, -⟩ := hn
      have n0 : us 0 = _ := n0
      have n1 : us 1 = _ := n1
      clear ho
      have hbx : v.heap[w3.heap.size]? = some (.cells #[e0, e1, e2, e3, e4, e5, e6, e7, e8, e9, e10] 30 (0, 0)) := (hR.block _ (lt_of_block HQ5.out) (by have := lt_of_block HZ.out; have := HB3.out.size; simp; omega)).trans HQ5.out
      obtain ⟨e3', n3'⟩ := n3
      rw [if_pos (by rfl)]
      go_simp
      refine hK _ _ _ (by simp only [Act.put, List.setIfInBounds_toArray, List.set_cons_zero, List.set_cons_succ, Nat.reduceAdd, n0, n1, e3'] <;> rfl) ?_ hR ⟨fun h => h, fun h => h, trivial⟩
      refine only_mk (v := v) ?_
      rw [HRE.out]
    · intro us v hR hn ho K hK
      obtain ⟨n4, ns, -⟩ := hn
      have n4 : us 4 = _ := n4
      clear ho
      have hbx : v.heap[w3.heap.size]? = some (.cells #[e0, e1, e2, e3, e4, e5, e6, e7, e8, e9, e10] 30 (0, 0)) := (hR.block _ (lt_of_block HQ5.out) (by have := lt_of_block HZ.out; have := HB3.out.size; simp; omega)).trans HQ5.out
      rw [if_pos (by rfl)]
      refine wp_store_all 35 (.tmp 12) (.tmp 24) (by rfl) w.heap.size _ _ _ (by rfl) n4 ns (by rw [HRS.out]; rfl) (by rw [HRS.out]; exact infoP) HRO.out ?_
      intro v' hq hk
      exact hK undef _ _ (by simp only [Act.put, List.setIfInBounds_toArray, List.set_cons_zero, List.set_cons_succ, Nat.reduceAdd, n4] <;> rfl) hq (hR.trans hk) ⟨fun ⟨q, x, hx⟩ => ⟨q, x, hx.kept hk (by simp)⟩, trivial⟩
  case hla =>
    intro us v hR hl
    obtain ⟨n0, n1, n2, n3, n4, n5, -⟩ := need_last hl [0, 1, 2, 3, 4, 5] (by kernel_rfl)
    have n0 : us 0 = _ := n0
    have n1 : us 1 = _ := n1
    have n2 : us 2 = _ := n2
    have n4 : us 4 = _ := n4
    have hbx : v.heap[w3.heap.size]? = some (.cells #[e0, e1, e2, e3, e4, e5, e6, e7, e8, e9, e10] 30 (0, 0)) := (hR.block _ (lt_of_block HQ5.out) (by have := lt_of_block HZ.out; have := HB3.out.size; simp; omega)).trans HQ5.out
    simp only [n0, n1, n2, n4]
    clear hl n0 n1 n2 n4
    obtain ⟨_, x, hx⟩ := n3
    go_wp2_with fail
    refine ret_row1 Tryz.results7 w.heap.size _ _ _ rfl n5 Tryz.underlying35 rfl (by rw [HRS.out]; exact infoP) rfl ?_
    exact ⟨RM.nil, by rw [HRR.out], RIs.new HF.out hx, HB2.out.trans ((HB3.out.trans (HB5.out.mono HB3.out.size)).mono (by have := lt_of_block HZ.out; omega) |>.trans (hR.below (by have := lt_of_block HZ.out; have := HB3.out.size; have := HB5.out.size; omega) (by simp))), rfl⟩
end Go.Proofs.YtihhflajkohibaaGreatDoor.Pipe
