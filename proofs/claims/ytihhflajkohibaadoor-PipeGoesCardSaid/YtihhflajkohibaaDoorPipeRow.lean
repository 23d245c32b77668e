/- Layer 10: all that is on its way to a side, as a row; what acts keep, whatever comes. Conditions: all lies apart from each other (St10). -/
import Derived.Test.YtihhflajkohibaaDoorPipePlay3
namespace Go.Proofs.YtihhflajkohibaaDoor.Pipe
set_option linter.unusedSimpArgs false
set_option linter.unusedVariables false
set_option maxRecDepth 100000
open Go.RowKit
open Go.Proofs.YtihhflajkohibaaDoor
open Go.Proofs.YtihhflajkohibaaDoor.Link (LE Fr EndIs)
open Go.Proofs.YtihhflajkohibaaDoor.Net (NS NetIs)
/-- sizes that acts keep, whatever comes; the ends' window, the room -/
structure Inv2 (W m k : Nat) (t : T10) : Prop where
  short : Short t.s.n
  gl : ∀ b, (t.s.g b).length ≤ k
  tl : ∀ b, (t.t b).length ≤ k
  wl : ∀ b, (t.w b).length ≤ 1000 * k
  win : ∀ b, (t.s.e b).window = W
  rm : t.s.n.m = m
section
variable {W m k : Nat} {t : T10}
theorem Inv2.start (epoch first window queue wait room : Int) : Inv2 (Link.clampN window 1 8) (Net.clampN room 1000) 0 ⟨new epoch first window queue wait room, fun _ => [], fun _ => []⟩ :=
  ⟨new_short _ _, fun _ => Nat.le_refl _, fun _ => Nat.le_refl _, fun _ => Nat.zero_le _, fun _ => rfl, rfl⟩
theorem Inv2.more (h : Inv2 W m k t) : Inv2 W m (k + 1) t := ⟨h.short, fun b => Nat.le_trans (h.gl b) (by omega), fun b => Nat.le_trans (h.tl b) (by omega), fun b => Nat.le_trans (h.wl b) (by omega), h.win, h.rm⟩
theorem Inv2.sz (h : Inv2 W m k t) (hk : k ≤ 100) : Sz10 t := ⟨h.short, fun b => Nat.le_trans (h.gl b) (by omega), fun b => Nat.le_trans (h.wl b) (by omega), fun b => Nat.le_trans (h.tl b) (by omega)⟩
theorem up_win {f : Bool → LE} {me : Bool} {z : LE} (h : ∀ b, (f b).window = W) (hz : z.window = W) : ∀ b, (up f me z b).window = W := up_all (P := fun x : LE => x.window = W) f me z h hz
theorem sent_win (x : LE) (b : ByteArray) : (x.sent b).window = x.window := by unfold LE.sent; split <;> rfl
theorem ticked_win (x : LE) : x.ticked.window = x.window := by unfold LE.ticked; split <;> (try split) <;> rfl
theorem send_m (n : NS) (a b : Int) (s : ByteArray) : (n.send a b s).m = n.m := by unfold NS.send; split <;> rfl
theorem deliver_m (n : NS) (a b k : Int) : (n.deliver a b k).m = n.m := by unfold NS.deliver; split <;> rfl
theorem double_m (n : NS) (a b k : Int) : (n.double a b k).m = n.m := by
  unfold NS.double; split
  · exact send_m _ _ _ _
  · rfl
theorem flip_m (n : NS) (a b k x : Int) : (n.flip a b k x).m = n.m := by unfold NS.flip; split <;> rfl
theorem Inv2.send (h : Inv2 W m k t) (me : Bool) (b : ByteArray) : Inv2 W m (k + 1) (t.send me b) := by
  have h2 := h.more
  refine ⟨h.short, h2.gl, up_len t.t me _ (k + 1) h2.tl ?_, h2.wl, up_win h.win ((sent_win _ _).trans (h.win me)), h.rm⟩
  have := h.tl me
  split
  · rw [List.length_append]; simp; omega
  · omega
theorem Inv2.pipe (h : Inv2 W m k t) {s : PS} (hs : Short s.n) (hg : ∀ b, (s.g b).length ≤ k + 1) (hw : ∀ b, (s.e b).window = W) (hm : s.n.m = m) : Inv2 W m (k + 1) (t.pipe s) := ⟨hs, hg, h.more.tl, h.more.wl, hw, hm⟩
theorem Inv2.go (h : Inv2 W m k t) (me : Bool) (hok : (t.s.e me).Ok) : Inv2 W m (k + 1) (t.go me) := by
  have h2 := h.more
  obtain ⟨r1, r2, r3, r4, r5, r6, r7⟩ := t.s.go_row me
  have hgl := goes_le hok
  refine ⟨PS.short_go h.short, h2.gl, h2.tl, up_len t.w (!me) _ (1000 * (k + 1)) h2.wl ?_, up_win h.win (h.win me), r6.trans h.rm⟩
  have := h.wl (!me)
  rw [List.length_append]; omega
theorem Inv2.come (h : Inv2 W m k t) (me : Bool) (n : Int) : Inv2 W m (k + 1) (t.pipe (t.s.come me n)) := by
  have h2 := h.more
  refine h.pipe (PS.short_come h.short n) ?_ ?_ ?_
  · unfold PS.come
    split
    · refine up_len t.s.g me _ (k + 1) h2.gl ?_
      have := h.gl me
      split
      · rw [List.length_append]; simp; exact this
      · exact Nat.le_trans this (by omega)
    · exact h2.gl
  · unfold PS.come
    split
    · exact up_win h.win ((Link.taken_keep _ _).2.trans (h.win me))
    · exact h.win
  · unfold PS.come
    split
    · exact (deliver_m _ _ _ _).trans h.rm
    · exact (deliver_m _ _ _ _).trans h.rm
theorem Inv2.play (h : Inv2 W m k t) (hok : ∀ b, (t.s.e b).Ok) (me : Bool) (a : Act10) : Inv2 W m (k + 1) (t.play me a) := by
  have h2 := h.more
  unfold T10.play
  split
  · exact h.send me a.S
  · split
    · exact h.go me (hok me)
    · split
      · exact h.pipe h.short h2.gl (up_win h.win ((ticked_win _).trans (h.win me))) h.rm
      · split
        · exact h.come me a.N
        · split
          · exact h.pipe (PS.short_lose h.short a.N) h2.gl h.win ((deliver_m _ _ _ _).trans h.rm)
          · split
            · exact h.pipe (PS.short_double h.short a.N) h2.gl h.win ((double_m _ _ _ _).trans h.rm)
            · exact h.pipe (PS.short_flip h.short a.N a.X) h2.gl h.win ((flip_m _ _ _ _ _).trans h.rm)
end
section
variable {B : Nat} {M : M10} {t : T10} {X : List Thing} {w : World} {W m k : Nat}
theorem St10.ok (h : St10 B M t X w) (b : Bool) : (t.s.e b).Ok := h.pipe.endOk b
def PlayAny2 (B : Nat) (M : M10) (X : List Thing) (W m k : Nat) (a : Act10) (w : World) (e : Ending) (w' : World) : Prop :=
  ∃ (M' : M10) (t' : T10) (ok : Bool), M'.p = M.p ∧ e = .returned (.tuple #[.agg (M'.wc t'), .agg (M'.tc t'), .bool ok]) ∧ St10 B M' t' X w' ∧ Below B w w' ∧ Inv2 W m (k + 1) t' ∧ (ok = false → (a.Side = 0 ∨ a.Side = 1) ∧ Inv2 W m k t')
theorem play_any2 (h : St10 B M t X w) (hi : Inv2 W m k t) (hk : k ≤ 100) (a : Act10) :
    Calls Tryd.prog 11 #[.pointer (some ⟨M.p, 0, none⟩), .agg a.cells.toArray, .agg (M.wc t), .agg (M.tc t)] w (PlayAny2 B M X W m k a w) := by
  have hz := hi.sz hk
  by_cases hs : a.Side = 0 ∨ a.Side = 1
  · obtain ⟨K, sd, N, x, S⟩ := a
    have hs : sd = 0 ∨ sd = 1 := hs
    rcases hs with rfl | rfl
    · by_cases hb : K = 3 ∧ t.bad false N
      · obtain ⟨rfl, hb⟩ := hb
        refine (bad_false h hz N x S hb).mono ?_
        rintro e w' ⟨M', hp, he, hs, hb⟩
        exact ⟨M', t, false, hp, he, hs, hb, hi.more, fun _ => ⟨.inl rfl, hi⟩⟩
      · refine (play_false h hz K N x S hb).mono ?_
        rintro e w' ⟨M', hp, he, hs, hb2⟩
        exact ⟨M', _, true, hp, he, hs, hb2, hi.play h.ok false ⟨K, 0, N, x, S⟩, fun h => by cases h⟩
    · by_cases hb : K = 3 ∧ t.bad true N
      · obtain ⟨rfl, hb⟩ := hb
        refine (bad_true h hz N x S hb).mono ?_
        rintro e w' ⟨M', hp, he, hs, hb⟩
        exact ⟨M', t, false, hp, he, hs, hb, hi.more, fun _ => ⟨.inr rfl, hi⟩⟩
      · refine (play_true h hz K N x S hb).mono ?_
        rintro e w' ⟨M', hp, he, hs, hb2⟩
        exact ⟨M', _, true, hp, he, hs, hb2, hi.play h.ok true ⟨K, 1, N, x, S⟩, fun h => by cases h⟩
  · have hs : isSide a.Side = false := by
      cases h : isSide a.Side
      · rfl
      · exact absurd (isSide_iff.1 h) hs
    refine (play_not h a hs).mono ?_
    rintro e w' ⟨M', hp, he, hs, hb2⟩
    exact ⟨M', t, true, hp, he, hs, hb2, hi.more, fun h => by cases h⟩
/-- all that is on its way to a side, by its number -/
def PS.rowI (s : PS) (n : Int) : List ByteArray := if n = 0 then s.row false else if n = 1 then s.row true else []
theorem rowI_no (s : PS) (me : Bool) : s.rowI (no me) = s.row me := by cases me <;> rfl
def RowSaid (B : Nat) (M : M10) (t : T10) (X : List Thing) (l : List ByteArray) (w : World) (e : Ending) (w' : World) : Prop :=
  ∃ (arr : Arr) (F' : List Nat), e = .returned (sl arr l.length) ∧ St10 B { M with F := F' } t (txT arr l :: X) w' ∧ Below B w w'
def RowK (B : Nat) (M : M10) (t : T10) (X : List Thing) (l : List ByteArray) (w : World) (v : Value) (k : Nat) (wr : World) : Prop :=
  ∃ (arr : Arr) (F' : List Nat), v = sl arr k ∧ St10 B { M with F := F' } t (txT arr (l.take k) :: X) wr ∧ Below B w wr
set_option maxHeartbeats 4000000 in
theorem row_yes (h : St10 B M t X w) (me : Bool) : Calls Tryd.prog 23 #[.pointer (some ⟨M.p, 0, none⟩), .int .i64 (no me)] w (RowSaid B M t X (t.s.row me) w) := by
  obtain ⟨i0, hi0, hz0, hz1, hz2⟩ := info_parts Link.str_info
  obtain ⟨m, r, _, _, h1, _, hm2, _, _⟩ := no_nat me
  obtain ⟨l, hl⟩ : ∃ l, t.s.row me = l := ⟨_, rfl⟩
  have hok := h.pipe.netOk
  have hl1000 : l.length ≤ 1000 := by rw [← hl]; exact Nat.le_trans (hok.room _ _) hok.m1000
  have HHAS := Lib.hid (show ∀ k : Nat, t.s.has me (k : Int) = decide (k < l.length) from fun k => by rw [PS.has_row, hl]; simp)
  have HLOOK := Lib.hid (show ∀ k (hk : k < l.length), l[k]? = some (t.s.look me (k : Int)) from fun k hk => by
    subst hl
    rw [PS.look_row _ _ _ hk, List.getElem?_eq_getElem hk])
  have hba : Below w.heap.size w (w.alloc (.cells #[] 9)) := (Below.refl _ _).alloc (Nat.le_refl _) _
  have hv0 : Vec (w.alloc (.cells #[] 9)) [w.heap.size] 1 (some ⟨w.heap.size, 0, none⟩) 0 0 [] := Vec.of_new (w := w.alloc (.cells #[] 9)) (e := 9) (g := w.heap.size) #[] 1 0 0 (Nat.le_refl _) (Nat.zero_le _) rfl (heap_alloc_new w _)
  have hst := h.more (w' := w.alloc (.cells #[] 9)) (o := txT ⟨some ⟨w.heap.size, 0, none⟩, 0, [w.heap.size]⟩ []) hba hv0 (txT_local _ _) (fun k hk => by simp [txT, vecT] at hk; omega)
  have HST := Lib.hid (show RowK B M t X l w (.slice (some ⟨w.heap.size, 0, none⟩) 0 0) 0 (w.alloc (.cells #[] 9)) from ⟨⟨some ⟨w.heap.size, 0, none⟩, 0, [w.heap.size]⟩, M.F, rfl, by rw [List.take_zero]; exact hst, hba.mono h.le⟩)
  have HM := Lib.hid h1
  rw [h1, hl]
  clear hba hv0 hst hl hok h h1
  go_enter Tryd.func23, Tryd.ntmps23
  go_wp2_with fail
  go_loopw [5, 6] (fun v i wr => ∃ k : Nat, k ≤ l.length ∧ i = .int .i64 (k : Int) ∧ RowK B M t X l w v k wr) (fun _ i _ => l.length + 1 - (intOf i).toNat)
  case atStart => exact ⟨0, Nat.zero_le _, rfl, HST.out⟩
  case round =>
    obtain ⟨k, hk, rfl, arr, F', rfl, hs, hb⟩ := hrel
    have HS := Lib.hid hs
    have HB := Lib.hid hb
    have dk : decide ((k : Int) < 1001) = true := by simp; omega
    unfold sl
    clear hs hb
    go_wp2_with fail
    have hlk := HS.out.act (look_yes HS.out.pipe HS.out.le me (k : Int))
    rw [HM.out, show t.s.has me (k : Int) = _ from HHAS.out k] at hlk
    refine hlk.mono ?_
    clear hlk
    by_cases hkl : k < l.length
    · have hkb := HLOOK.out k hkl
      obtain ⟨b, hbb⟩ : ∃ b, t.s.look me (k : Int) = b := ⟨_, rfl⟩
      rw [hbb] at hkb
      rw [decide_eq_true hkl, hbb]
      rintro e w7 ⟨rfl, F7, h7, hb7⟩
      have h7 : St10 B { M with F := F7 } t (txT arr (l.take k) :: X) w7 := h7
      obtain ⟨xs, hxs⟩ : ∃ xs, l.take k = xs := ⟨_, rfl⟩
      have hxl : xs.length = k := by rw [← hxs, List.length_take]; omega
      obtain ⟨ys, hys⟩ : ∃ ys, l.take (k + 1) = ys := ⟨_, rfl⟩
      have hyx : ys = xs ++ [b] := by rw [← hys, List.take_add_one, hkb, ← hxs]; rfl
      have HYS := Lib.hid hys
      have hyl : ys.length = k + 1 := by rw [hyx, List.length_append, hxl]; rfl
      have HYL := Lib.hid hyl
      have HYM := Lib.hid (show xs.map Value.string ++ [.string b] = ys.map .string from by rw [hyx]; simp)
      rw [hxs] at h7
      have hva : Below w7.heap.size w7 (w7.alloc (.cells #[.string b] 9)) := (Below.refl _ _).alloc (Nat.le_refl _) _
      have HLA := Lib.hid (h7.after hva)
      have HBA := Lib.hid ((HB.out.trans hb7).trans (hva.mono h7.le))
      have HVA := Lib.hid (show Vec (w7.alloc (.cells #[.string b] 9)) arr.F 1 arr.A k arr.c (xs.map .string) from by
        have := (h7.after hva).x 0 rfl
        have h8 : Vec (w7.alloc (.cells #[.string b] 9)) arr.F 1 arr.A xs.length arr.c (xs.map .string) := this
        rwa [hxl] at h8)
      clear h7 hb7 hva hxs hkb hbb hyx hys hyl hxl
      go_wp2_with (at_builtin; (refine wpList_append_vec _ (by rfl) _ _ _ _ (by rfl) 9 i0 _ 1 16 Tryd.underlying28 hi0 hz0 hz1 hz2 rfl arr.F arr.A k arr.c (xs.map .string) (.slice (some ⟨w7.heap.size, 0, none⟩) 1 1) 1 [.string b] (by rfl) (by rfl) (by exact HVA.out) (by exact src_new _ Tryd.underlying28 [.string b] 1 1 1 rfl (by simp [Value.oneCell']) _ (heap_alloc_new w7 _)) (by unfold maxLen; omega) (by omega) ?_; intro v6 w8 happ; rw [HYM.out] at happ; have HAP := Lib.hid happ; clear happ))
      obtain ⟨F8, A8, c8, rfl, hv8, ht8⟩ := HAP.out.all
      rw [← HYL.out] at hv8
      obtain ⟨l8, b8⟩ := HLA.out.setX 0 rfl (o' := txT ⟨A8, c8, F8⟩ ys) hv8 (txT_local _ _) ht8
      have HRK := Lib.hid (show RowK B M t X l w (.slice A8 (k + 1) c8) (k + 1) w8 from ⟨⟨A8, c8, F8⟩, F7, rfl, by rw [HYS.out]; exact l8, HBA.out.trans b8⟩)
      clear hv8 ht8 l8 b8
      go_roundw
      case rel => exact ⟨k + 1, hkl, by go_num, HRK.out⟩
      case measure => simp [intOf]; omega
    · rw [decide_eq_false hkl]
      have hk2 : k = l.length := by omega
      generalize t.s.look me (k : Int) = b
      rintro e w7 ⟨rfl, F7, h7, hb7⟩
      have h7 : St10 B { M with F := F7 } t (txT arr (l.take k) :: X) w7 := h7
      have HR := Lib.hid (show RowSaid B M t X l w (.returned (.slice arr.A k arr.c)) w7 from by
        rw [List.take_of_length_le (by omega)] at h7
        exact ⟨arr, F7, by rw [← hk2]; rfl, h7, HB.out.trans hb7⟩)
      clear h7 hb7 hk2
      go_wp2_with fail
      go_ret
      exact HR.out
set_option maxHeartbeats 2000000 in
theorem row_no (h : St10 B M t X w) (n : Int) (hn : isSide n = false) : Calls Tryd.prog 23 #[.pointer (some ⟨M.p, 0, none⟩), .int .i64 n] w (RowSaid B M t X [] w) := by
  have hba : Below w.heap.size w (w.alloc (.cells #[] 9)) := (Below.refl _ _).alloc (Nat.le_refl _) _
  have hv0 : Vec (w.alloc (.cells #[] 9)) [w.heap.size] 1 (some ⟨w.heap.size, 0, none⟩) 0 0 [] := Vec.of_new (w := w.alloc (.cells #[] 9)) (e := 9) (g := w.heap.size) #[] 1 0 0 (Nat.le_refl _) (Nat.zero_le _) rfl (heap_alloc_new w _)
  have hst := h.more (w' := w.alloc (.cells #[] 9)) (o := txT ⟨some ⟨w.heap.size, 0, none⟩, 0, [w.heap.size]⟩ []) hba hv0 (txT_local _ _) (fun k hk => by simp [txT, vecT] at hk; omega)
  have HR := Lib.hid (show RowSaid B M t X [] w (.returned (.slice (some ⟨w.heap.size, 0, none⟩) 0 0)) (w.alloc (.cells #[] 9)) from ⟨⟨some ⟨w.heap.size, 0, none⟩, 0, [w.heap.size]⟩, M.F, rfl, hst, hba.mono h.le⟩)
  clear hba hv0 hst
  go_enter Tryd.func23, Tryd.ntmps23
  go_wp2_with fail
  go_loopw [5, 6] (fun v i wr => v = .slice (some ⟨w.heap.size, 0, none⟩) 0 0 ∧ i = .int .i64 0 ∧ wr = w.alloc (.cells #[] 9)) (fun _ _ _ => 0)
  case atStart => exact ⟨rfl, rfl, rfl⟩
  case round =>
    obtain ⟨rfl, rfl, rfl⟩ := hrel
    go_wp2_with fail
    refine (look_no _ n hn 0 _).mono ?_
    rintro e w7 ⟨rfl, rfl⟩
    go_wp2_with fail
    go_ret
    exact HR.out
end
end Go.Proofs.YtihhflajkohibaaDoor.Pipe
