/- Layer 2: the walk of RingOrder. Conditions: the slices lie in memory that came in. -/
import Derived.Test.YtmbnnpmmbjdodaaLaw02Full
namespace Go.Proofs.Ytmbnnpmmbjdodaa
open Go.RowKit

/-- the rows that RingOrder keeps, and the ring -/
def OrdRel (B p q m : Nat) (w0 : World) (u v : Value) (xs inn out : List Int) (wr : World) : Prop :=
  TwoRows 3 mkI wr B u v inn out ∧ RingI.Has wr p q m xs ∧ inn = out ++ xs ∧ Below w0.heap.size w0 wr ∧ B ≤ wr.heap.size
theorem OrdRel.push_yes {B p q m : Nat} {w0 wr w4 : World} {u v : Value} {xs inn out : List Int} (h : OrdRel B p q m w0 u v xs inn out wr) (y : Int) (hx : xs.length < m)
    (h4 : RingI.Has w4 p q m (RingI.pushed m xs y)) (hk : Kept [p, q] wr w4) (hp : p < B) (hq : q < B) (hL : ∀ x, x ∈ [p, q] → w0.heap.size ≤ x)
    {v' : Value} {w5 : World} {o : Obj} (hown : w5.ownsRow B 3 1 v' (inn.length + 1) (inn.map mkI ++ [mkI y])) (hg : (w4.alloc o).grownBy w5 u.ownBlock)
    (hat : v'.ownBlock = u.ownBlock ∨ v'.ownBlock = some (w4.alloc o).heap.size) (hw0 : w0.heap.size ≤ B) : OrdRel B p q m w0 v' v (xs ++ [y]) (inn ++ [y]) out w5 := by
  obtain ⟨ht, hr, he, hb, hB⟩ := h
  have ht4 := ht.kept hk (by simp; omega)
  have hsz := hk.size
  have hbb : Below B w4 w5 := Kept.grown hg (fun k hk => (ht4.1.lt k hk).1) (by omega)
  rw [RingI.pushed, if_pos hx] at h4
  exact ⟨ht4.push y hown hg hat, h4.below hbb hp hq, by rw [he, List.append_assoc], (Kept.after hb hk hL).trans (hbb.mono hw0), Nat.le_trans (by omega : B ≤ w4.heap.size) hbb.size⟩
theorem OrdRel.push_no {B p q m : Nat} {w0 wr w4 : World} {u v : Value} {xs inn out : List Int} (h : OrdRel B p q m w0 u v xs inn out wr) (y : Int) (hx : ¬ xs.length < m)
    (h4 : RingI.Has w4 p q m (RingI.pushed m xs y)) (hk : Kept [p, q] wr w4) (hp : p < B) (hq : q < B) (hL : ∀ x, x ∈ [p, q] → w0.heap.size ≤ x) : OrdRel B p q m w0 u v xs inn out w4 := by
  obtain ⟨ht, hr, he, hb, hB⟩ := h
  rw [RingI.pushed, if_neg hx] at h4
  exact ⟨ht.kept hk (by simp; omega), h4, he, Kept.after hb hk hL, Nat.le_trans hB hk.size⟩
theorem OrdRel.pop_no {B p q m : Nat} {w0 wr w4 : World} {u v : Value} {xs inn out : List Int} (h : OrdRel B p q m w0 u v xs inn out wr) (hx : xs = [])
    (h4 : RingI.Has w4 p q m xs.tail) (hk : Kept [p, q] wr w4) (hp : p < B) (hq : q < B) (hL : ∀ x, x ∈ [p, q] → w0.heap.size ≤ x) : OrdRel B p q m w0 u v xs inn out w4 := by
  obtain ⟨ht, hr, he, hb, hB⟩ := h
  subst hx
  exact ⟨ht.kept hk (by simp; omega), h4, he, Kept.after hb hk hL, Nat.le_trans hB hk.size⟩
theorem OrdRel.pop_yes {B p q m : Nat} {w0 wr w4 : World} {u v : Value} {xs inn out : List Int} (h : OrdRel B p q m w0 u v xs inn out wr) (y : Int) (r : List Int) (hx : xs = y :: r)
    (h4 : RingI.Has w4 p q m xs.tail) (hk : Kept [p, q] wr w4) (hp : p < B) (hq : q < B) (hL : ∀ x, x ∈ [p, q] → w0.heap.size ≤ x)
    {v' : Value} {w5 : World} {o : Obj} (hown : w5.ownsRow B 3 1 v' (out.length + 1) (out.map mkI ++ [mkI y])) (hg : (w4.alloc o).grownBy w5 v.ownBlock)
    (hat : v'.ownBlock = v.ownBlock ∨ v'.ownBlock = some (w4.alloc o).heap.size) (hw0 : w0.heap.size ≤ B) : OrdRel B p q m w0 u v' r inn (out ++ [y]) w5 := by
  obtain ⟨ht, hr, he, hb, hB⟩ := h
  subst hx
  have ht4 := ht.kept hk (by simp; omega)
  have hsz := hk.size
  have hbb : Below B w4 w5 := Kept.grown hg (fun k hk => (ht4.2.1.lt k hk).1) (by omega)
  exact ⟨(ht4.symm.push y hown hg hat).symm, h4.below hbb hp hq, by rw [he]; simp, (Kept.after hb hk hL).trans (hbb.mono hw0), Nat.le_trans (by omega : B ≤ w4.heap.size) hbb.size⟩

set_option maxRecDepth 100000 in
set_option maxHeartbeats 8000000 in
theorem order_walk (room : Int) (A A2 : Option Addr) (c c2 : Nat) (ys zs : List Int) (w : World) (hA : Sl w 0 w.heap.size 1 A ys.length (ys.map mkI)) (hA2 : Sl w 0 w.heap.size 1 A2 zs.length (zs.map mkI)) (hy : ys.length ≤ maxLen) (hz : zs.length ≤ maxLen) :
    Calls Try.prog 4 #[.int .i64 room, .slice A ys.length c, .slice A2 zs.length c2] w fun e w' => e = .returned (.bool true) ∧ Below w.heap.size w w' := by
  unfold maxLen at hy hz
  have hL : ∀ x, x ∈ [w.heap.size + 1, w.heap.size] → w.heap.size ≤ x := by simp
  have HL := Lib.hid hL
  clear hL
  have hm1 : RingI.clamp room ≤ 1000 := by unfold RingI.clamp; omega
  obtain ⟨i0, hi0, hz0, hz1, hz2⟩ := info_parts RingI.elem_info
  by_cases h60 : ys.length ≤ 60 ∧ zs.length ≤ 60
  · obtain ⟨h60, h61⟩ := h60
    have hd1 : decide (60 < (ys.length : Int)) = false := by simp; omega
    have hd2 : decide (60 < (zs.length : Int)) = false := by simp; omega
    go_enter Try.func4, Try.ntmps4
    go_wp2_with fail
    refine (RingI.new_has room _).mono ?_
    rintro e w1 ⟨rfl, h1, hb1⟩
    generalize RingI.clamp room = m at *
    go_wp2_with fail
    refine (awake_any _).mono ?_
    rintro e w2 ⟨rfl, hb2⟩
    have h2 := h1.below hb2 h1.p_lt h1.q_lt
    have hbw := hb1.trans (hb2.mono hb1.size)
    have hpB : w.heap.size + 1 < w2.heap.size := h2.p_lt
    have hqB : w.heap.size < w2.heap.size := by omega
    have hwB : w.heap.size ≤ w2.heap.size := by omega
    have hst : OrdRel w2.heap.size (w.heap.size + 1) w.heap.size m w (.slice (some ⟨w2.heap.size, 0, none⟩) 0 0) (.slice (some ⟨w2.heap.size + 1, 0, none⟩) 0 0) [] [] [] ((w2.alloc (.cells #[] 3)).alloc (.cells #[] 3)) := by
      refine ⟨⟨(own_empty w2 _ _ 1 (Nat.le_refl _)).alloc _, by simpa using own_empty (w2.alloc (.cells #[] 3)) w2.heap.size 3 1 (by simp), by simp [Value.ownBlock]⟩, ?_, rfl, (hbw.alloc (by omega) _).alloc (by simp; omega) _, by simp; omega⟩
      exact h2.below (((Below.refl _ _).alloc (Nat.le_refl _) _).alloc (by simp) _) hpB hqB
    have HST := Lib.hid hst
    clear hst
    go_wp2_with fail
    go_loopw [8, 10] (fun u i wr => ∃ k xs, k ≤ ys.length ∧ xs.length ≤ k ∧ i = .int .i64 (k : Int) ∧ OrdRel w2.heap.size (w.heap.size + 1) w.heap.size m w u (.slice (some ⟨w2.heap.size + 1, 0, none⟩) 0 0) xs xs [] wr) (fun _ i _ => ys.length - (intOf i).toNat)
    case atStart => exact ⟨0, [], Nat.zero_le _, Nat.le_refl _, rfl, HST.out⟩
    case round =>
      obtain ⟨k, xs, hk, hxk, rfl, hr⟩ := hrel
      by_cases hlt : k < ys.length
      · have hA1 := hA.below hr.2.2.2.1 (Nat.le_refl _)
        obtain ⟨b1, o1, rfl, _, hbl, hc1⟩ := hA1.at1 hlt
        rw [List.getElem?_map, List.getElem?_eq_getElem hlt] at hc1
        simp only [Option.map_some] at hc1
        generalize ys[k] = y at *
        have i0' : (0 : Int) ≤ (k : Int) := by omega
        have i1 : (k : Int) < (ys.length : Int) := by omega
        have hbs := hr.2.2.2.1.size
        have hBs := hr.2.2.2.2
        have hne1 : b1 ≠ w.heap.size + 1 := by omega
        have hne2 : b1 ≠ w.heap.size := by omega
        go_wp2_with fail
        refine (RingI.push_has hr.2.1 y).mono ?_
        rintro e w4 ⟨rfl, h4, hk4⟩
        have hc4 := (hk4.cell (p := ⟨b1, o1 + k, none⟩) (by simp; omega) (by simp [hne1, hne2])).trans hc1
        by_cases hf : xs.length < m
        · have hd3 : decide (xs.length < m) = true := decide_eq_true hf
          have hown4 := (own_kept hr.1.1 hk4 (by simp; omega)).alloc (.cells #[mkI y] 3)
          have hs4 := hk4.size
          have HF := Lib.hid hf
          have hxm : xs.length ≤ 60 := by omega
          clear hf
          go_wp2_with ((at_builtin; refine wpList_append_own_at _ rfl (.tmp 52) (.tmp 57) _ rfl w2.heap.size 3 i0 _ 1 8 Try.underlying26 hi0 hz0 hz1 hz2 rfl (by omega) u8 xs.length _ rfl hown4 ⟨w4.heap.size, 0, none⟩ 1 1 [mkI y] rfl rfl (World.news_of_block (cs := #[mkI y]) (t := 3) (fr := (0, 0)) (heap_alloc_new _ _)) (by simp [Value.oneCell']) (by unfold maxLen; omega) (by omega) (by simp; omega) ?_; intro v5 w5 hown5 hg5 _ hat5))
          go_roundw
          case rel => exact ⟨k + 1, xs ++ [y], hlt, by simp; omega, by go_num, hr.push_yes y HF.out h4 hk4 hpB hqB HL.out hown5 hg5 hat5 hwB⟩
          case measure => simp [intOf]; omega
        · have hd3 : decide (xs.length < m) = false := decide_eq_false hf
          have HF := Lib.hid hf
          clear hf
          go_wp2_with fail
          go_roundw
          case rel => exact ⟨k + 1, xs, hlt, by omega, by go_num, hr.push_no y HF.out h4 hk4 hpB hqB HL.out⟩
          case measure => simp [intOf]; omega
      · obtain rfl : k = ys.length := by omega
        go_wp2_with fail
        refine (RingI.pop_has hr.2.1).mono ?_
        rintro e w4 ⟨rfl, h4, hk4⟩
        have hs4 := hk4.size
        have hBs := hr.2.2.2.2
        go_upto_if 64 with fail
        go_cut [9] (fun u9 wx => ∃ xs' out', xs'.length + out'.length = xs.length ∧ OrdRel w2.heap.size (w.heap.size + 1) w.heap.size m w u8 u9 xs' xs out' wx)
        case first =>
          cases xs with
          | nil =>
            go_wp2_with fail
            go_meet
            exact ⟨[], [], rfl, hr.pop_no rfl h4 hk4 hpB hqB HL.out⟩
          | cons y r =>
            have hown4 := (own_kept hr.1.2.1 hk4 (by simp; omega)).alloc (.cells #[mkI y] 3)
            simp only [List.length_cons] at hxk
            go_wp2_with ((at_builtin; refine wpList_append_own_at _ rfl (.tmp 65) (.tmp 67) _ rfl w2.heap.size 3 i0 _ 1 8 Try.underlying26 hi0 hz0 hz1 hz2 rfl (by omega) (.slice (some ⟨w2.heap.size + 1, 0, none⟩) 0 0) 0 [] rfl hown4 ⟨w4.heap.size, 0, none⟩ 1 1 [mkI y] rfl rfl (World.news_of_block (cs := #[mkI y]) (t := 3) (fr := (0, 0)) (heap_alloc_new _ _)) (by simp [Value.oneCell']) (by unfold maxLen; omega) (by omega) (by simp; omega) ?_; intro v5 w5 hown5 hg5 _ hat5))
            go_meet
            exact ⟨r, [y], by simp, hr.pop_yes y r rfl h4 hk4 hpB hqB HL.out hown5 hg5 hat5 hwB⟩
        case rest =>
          obtain ⟨xs2, out, hlx, hr2⟩ := hcut
          generalize u8 = U8 at *
          generalize u9 = U9 at *
          clear hr hk4 h4 hs4 hBs
          go_wp2_with fail
          go_loopw [8, 13] (fun u i wr => ∃ k xs inn, k ≤ zs.length ∧ inn.length ≤ ys.length + k ∧ i = .int .i64 (k : Int) ∧ OrdRel w2.heap.size (w.heap.size + 1) w.heap.size m w u U9 xs inn out wr) (fun _ i _ => zs.length - (intOf i).toNat)
          case atStart => exact ⟨0, xs2, xs, Nat.zero_le _, by omega, rfl, hr2⟩
          case round =>
            obtain ⟨k, xs3, inn, hk, hik, rfl, hr⟩ := hrel
            have hinn : inn.length = out.length + xs3.length := by have := hr.2.2.1; rw [this, List.length_append]
            by_cases hlt : k < zs.length
            · have hA1 := hA2.below hr.2.2.2.1 (Nat.le_refl _)
              obtain ⟨b1, o1, rfl, _, hbl, hc1⟩ := hA1.at1 hlt
              rw [List.getElem?_map, List.getElem?_eq_getElem hlt] at hc1
              simp only [Option.map_some] at hc1
              generalize zs[k] = y at *
              have i0' : (0 : Int) ≤ (k : Int) := by omega
              have i1 : (k : Int) < (zs.length : Int) := by omega
              have hbs := hr.2.2.2.1.size
              have hBs := hr.2.2.2.2
              have hne1 : b1 ≠ w.heap.size + 1 := by omega
              have hne2 : b1 ≠ w.heap.size := by omega
              go_wp2_with fail
              refine (RingI.push_has hr.2.1 y).mono ?_
              rintro e w4 ⟨rfl, h4, hk4⟩
              have hc4 := (hk4.cell (p := ⟨b1, o1 + k, none⟩) (by simp; omega) (by simp [hne1, hne2])).trans hc1
              by_cases hf : xs3.length < m
              · have hd3 : decide (xs3.length < m) = true := decide_eq_true hf
                have hown4 := (own_kept hr.1.1 hk4 (by simp; omega)).alloc (.cells #[mkI y] 3)
                have hs4 := hk4.size
                have HF := Lib.hid hf
                have HI := Lib.hid hinn
                have hxm : inn.length ≤ 120 := by omega
                clear hf hinn
                go_wp2_with ((at_builtin; refine wpList_append_own_at _ rfl (.tmp 81) (.tmp 86) _ rfl w2.heap.size 3 i0 _ 1 8 Try.underlying26 hi0 hz0 hz1 hz2 rfl (by omega) u8 inn.length _ rfl hown4 ⟨w4.heap.size, 0, none⟩ 1 1 [mkI y] rfl rfl (World.news_of_block (cs := #[mkI y]) (t := 3) (fr := (0, 0)) (heap_alloc_new _ _)) (by simp [Value.oneCell']) (by unfold maxLen; omega) (by omega) (by simp; omega) ?_; intro v5 w5 hown5 hg5 _ hat5))
                go_roundw
                case rel => exact ⟨k + 1, xs3 ++ [y], inn ++ [y], hlt, by simp; omega, by go_num, hr.push_yes y HF.out h4 hk4 hpB hqB HL.out hown5 hg5 hat5 hwB⟩
                case measure => simp [intOf]; omega
              · have hd3 : decide (xs3.length < m) = false := decide_eq_false hf
                have HF := Lib.hid hf
                have HI := Lib.hid hinn
                clear hf hinn
                go_wp2_with fail
                go_roundw
                case rel => exact ⟨k + 1, xs3, inn, hlt, by omega, by go_num, hr.push_no y HF.out h4 hk4 hpB hqB HL.out⟩
                case measure => simp [intOf]; omega
            · obtain rfl : k = zs.length := by omega
              generalize u8 = V8 at *
              have hxl : xs3.length ≤ 120 := by omega
              have hil : inn.length ≤ 120 := by omega
              clear hinn hr2 hA hA2
              go_wp2_with fail
              go_loopw [9, 11, 12, 14] (fun v ux uo i wr => ∃ (k : Nat) (xs out : List Int) (X : Int) (OK : Bool), k ≤ 130 ∧ i = .int .i64 (k : Int) ∧ ux = .int .i64 X ∧ uo = .bool OK ∧ OrdRel w2.heap.size (w.heap.size + 1) w.heap.size m w V8 v xs inn out wr ∧ xs.length ≤ 120 - k ∧ (121 ≤ k → OK = false ∧ X = 0)) (fun _ _ _ i _ => 130 - (intOf i).toNat)
              case atStart => exact ⟨0, xs3, out, _, _, by omega, rfl, rfl, rfl, hr, by omega, fun h => by omega⟩
              case round =>
                obtain ⟨k, xs4, out4, X, OK, hk, rfl, rfl, rfl, hr5, hxk4, hok⟩ := hrel
                have hinn : inn.length = out4.length + xs4.length := by have := hr5.2.2.1; rw [this, List.length_append]
                have hBs := hr5.2.2.2.2
                by_cases hlt : k < 130
                · have HOK := Lib.hid hok
                  have HI := Lib.hid hinn
                  have hol : out4.length ≤ 120 := by omega
                  clear hok hinn
                  go_wp2_with fail
                  refine (RingI.pop_has hr5.2.1).mono ?_
                  rintro e w4 ⟨rfl, h4, hk4⟩
                  have hs4 := hk4.size
                  cases xs4 with
                  | nil =>
                    go_wp2_with fail
                    go_roundw
                    case rel => exact ⟨k + 1, [], out4, 0, false, by omega, by go_num, rfl, rfl, hr5.pop_no rfl h4 hk4 hpB hqB HL.out, by simp, fun _ => ⟨rfl, rfl⟩⟩
                    case measure => simp [intOf]; omega
                  | cons y r =>
                    have hown4 := (own_kept hr5.1.2.1 hk4 (by simp; omega)).alloc (.cells #[mkI y] 3)
                    simp only [List.length_cons] at hxk4
                    go_wp2_with ((at_builtin; refine wpList_append_own_at _ rfl (.tmp 98) (.tmp 100) _ rfl w2.heap.size 3 i0 _ 1 8 Try.underlying26 hi0 hz0 hz1 hz2 rfl (by omega) u9 out4.length _ rfl hown4 ⟨w4.heap.size, 0, none⟩ 1 1 [mkI y] rfl rfl (World.news_of_block (cs := #[mkI y]) (t := 3) (fr := (0, 0)) (heap_alloc_new _ _)) (by simp [Value.oneCell']) (by unfold maxLen; omega) (by omega) (by simp; omega) ?_; intro v5 w5 hown5 hg5 _ hat5))
                    go_roundw
                    case rel => exact ⟨k + 1, r, out4 ++ [y], y, true, by omega, by go_num, rfl, rfl, hr5.pop_yes y r rfl h4 hk4 hpB hqB HL.out hown5 hg5 hat5 hwB, by omega, fun h => by omega⟩
                    case measure => simp [intOf]; omega
                · obtain rfl : k = 130 := by omega
                  obtain ⟨rfl, rfl⟩ := hok (by omega)
                  obtain rfl : xs4 = [] := List.eq_nil_of_length_eq_zero (by omega)
                  obtain ⟨ht, hri, he, hbb, _⟩ := hr5
                  obtain ⟨Ai, ci, rfl, _, hsi⟩ := Sl.of_own ht.1
                  obtain ⟨Ao, co, rfl, _, hso⟩ := Sl.of_own ht.2.1
                  have hsame : (inn == out4) = true := by rw [he]; simp
                  have ol : out4.length ≤ maxLen := by unfold maxLen; simp at hinn; omega
                  have il : inn.length ≤ maxLen := by unfold maxLen; omega
                  have HE := Lib.hid he
                  clear hinn he hok
                  go_wp2_with fail
                  refine (RingI.len_has hri).mono ?_
                  rintro e w6 ⟨rfl, rfl⟩
                  go_wp2_with fail
                  refine (same_any hsi hso il ol).mono ?_
                  rintro e w6 ⟨rfl, n6, rfl⟩
                  go_wp2_with fail
                  go_ret
                  exact ⟨rfl, below_drewN hbb n6⟩
  · have hd : decide (60 < (ys.length : Int)) = true ∨ decide (60 < (ys.length : Int)) = false ∧ decide (60 < (zs.length : Int)) = true := by simp; omega
    clear h60
    rcases hd with hd | ⟨hd, hd2⟩
    all_goals
      go_enter Try.func4, Try.ntmps4
      go_wp2_with fail
      refine (RingI.new_has room _).mono ?_
      rintro e w1 ⟨rfl, h1, hb1⟩
      go_wp2_with fail
      refine (awake_any _).mono ?_
      rintro e w2 ⟨rfl, hb2⟩
      go_wp2_with fail
      refine (awake_any _).mono ?_
      rintro e w3 ⟨rfl, hb3⟩
      have hbw := hb1.trans (hb2.mono hb1.size)
      go_wp2_with fail
      go_ret
      exact ⟨rfl, hbw.trans (hb3.mono hbw.size)⟩
end Go.Proofs.Ytmbnnpmmbjdodaa
