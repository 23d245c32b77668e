/- Layer 9, plain: if all that goes out comes, and time passes, all is told, and nothing waits. No function of the program. -/
import Derived.Test.YtihhflajkohibaaGreatDoorLinkOnce
namespace Go.Proofs.YtihhflajkohibaaGreatDoor.Link
set_option linter.unusedSimpArgs false
set_option linter.unusedVariables false
set_option maxRecDepth 100000

/-- time passes so often -/
def LE.ticks (x : LE) : Nat → LE
  | 0 => x
  | n + 1 => (LE.ticks x n).ticked
theorem ticks_or (x : LE) (hx : x.Ok) (n : Nat) : (x.ticks n).out = 0 ∨ ((x.ticks n) = { x with age := x.age + n } ∧ x.age + n < x.wait) := by
  induction n with
  | zero => exact .inr ⟨rfl, hx.age⟩
  | succ n ih =>
    show ((x.ticks n).ticked).out = 0 ∨ _
    rcases ih with h | ⟨h, hl⟩
    · left; unfold LE.ticked; rw [if_pos h]; exact h
    · by_cases c : x.out = 0
      · left
        have : (x.ticks n).out = 0 := by rw [h]; exact c
        unfold LE.ticked; rw [if_pos this]; exact this
      · have c' : ¬ (x.ticks n).out = 0 := by rw [h]; exact c
        unfold LE.ticked; rw [if_neg c']
        by_cases d : (x.ticks n).wait ≤ (x.ticks n).age + 1
        · left; rw [if_pos d]
        · right
          have e : x.ticks (n + 1) = { x with age := x.age + (n + 1) } := by
            show (x.ticks n).ticked = _
            unfold LE.ticked; rw [if_neg c', if_neg d, h]; rfl
          rw [h] at d
          exact ⟨e, by simp only at d; omega⟩
theorem ticks_out (x : LE) (hx : x.Ok) : (x.ticks 100).out = 0 := by
  rcases ticks_or x hx 100 with h | ⟨_, h⟩
  · exact h
  · have := hx.t100; omega
theorem ticked_same (x : LE) : x.ticked.bodies = x.bodies ∧ x.ticked.owes = x.owes ∧ x.ticked.epoch = x.epoch ∧ x.ticked.window = x.window ∧ x.ticked.want = x.want := by
  unfold LE.ticked; split <;> (try split) <;> exact ⟨rfl, rfl, rfl, rfl, rfl⟩
theorem ticks_same (x : LE) (n : Nat) : (x.ticks n).bodies = x.bodies ∧ (x.ticks n).owes = x.owes ∧ (x.ticks n).epoch = x.epoch ∧ (x.ticks n).window = x.window ∧ (x.ticks n).want = x.want := by
  induction n with
  | zero => exact ⟨rfl, rfl, rfl, rfl, rfl⟩
  | succ n ih =>
    obtain ⟨a, b, c, d, e⟩ := ticked_same (x.ticks n)
    obtain ⟨a', b', c', d', e'⟩ := ih
    exact ⟨a.trans a', b.trans b', c.trans c', d.trans d', e.trans e'⟩
theorem Pair.ticks {f0 : Int} {x y : LE} {Sx Sy Gx Gy : List ByteArray} {ox oy : List Fr} (h : Pair f0 x y Sx Sy Gx Gy ox oy) (n : Nat) : Pair f0 (x.ticks n) y Sx Sy Gx Gy ox oy := by
  induction n with
  | zero => exact h
  | succ n ih => exact ih.ticked

/-- frames that come one behind the other -/
def come (s : LE × List ByteArray) (f : Fr) : LE × List ByteArray := (s.1.taken f, if s.1.isNext f then s.2 ++ [s.1.told f] else s.2)
def comes (s : LE × List ByteArray) (l : List Fr) : LE × List ByteArray := l.foldl come s
theorem comes_snoc (s : LE × List ByteArray) (l : List Fr) (f : Fr) : comes s (l ++ [f]) = come (comes s l) f := by simp [comes]

/-- its bodies are none too long -/
def LE.Small (x : LE) : Prop := 0 ≤ x.epoch ∧ x.epoch ≤ 65535 ∧ ∀ b ∈ x.bodies, b.size ≤ 64
theorem came_sub (x : LE) (f : Fr) : (x.acked f).bodies.length ≤ x.bodies.length ∧ (∀ b ∈ (x.acked f).bodies, b ∈ x.bodies) ∧ (x.out = 0 → (x.acked f).out = 0) ∧ (x.acked f).owes = x.owes := by
  unfold LE.acked
  split
  · exact ⟨by simp [LE.came], fun b hb => List.mem_of_mem_drop hb, fun h => by show x.out - _ = 0; omega, rfl⟩
  · exact ⟨Nat.le_refl _, fun b hb => hb, fun h => h, rfl⟩
theorem taken_is (x : LE) (f : Fr) (hf : x.fits f = true) : (x.taken f).bodies = (x.acked f).bodies ∧ (x.taken f).out = (x.acked f).out ∧ (f.kind = 1 → (x.taken f).owes = true) ∧ (f.kind ≠ 1 → (x.taken f).owes = x.owes) := by
  unfold LE.taken
  rw [if_pos hf]
  by_cases c : f.kind = 1
  · rw [if_pos c]
    by_cases d : f.seq = x.want
    · rw [if_pos d]; exact ⟨rfl, rfl, fun _ => rfl, fun h => absurd c h⟩
    · rw [if_neg d]; exact ⟨rfl, rfl, fun _ => rfl, fun h => absurd c h⟩
  · rw [if_neg c]; exact ⟨rfl, rfl, fun h => absurd h c, fun _ => (came_sub x f).2.2.2⟩
theorem taken_keep (x : LE) (f : Fr) : (x.taken f).epoch = x.epoch ∧ (x.taken f).window = x.window := by
  unfold LE.taken
  split
  · split
    · split
      · exact ⟨LE.acked_epoch f, LE.acked_window f⟩
      · exact ⟨LE.acked_epoch f, LE.acked_window f⟩
    · exact ⟨LE.acked_epoch f, LE.acked_window f⟩
  · exact ⟨rfl, rfl⟩
section
variable {f0 : Int} {x y : LE} {Sx Sy Gx Gy : List ByteArray} {ox oy : List Fr}
/-- what was told of stands in the frame: then nothing waits that was told -/
theorem Dir.acked_all {S G : List ByteArray} (h : Dir f0 x y S G ox oy) (hx : x.Ok) {f : Fr} (hf : f.ack = y.want) : (x.acked f).bodies.length + G.length = S.length := by
  have hw8 := hx.w8
  have hew := hx.ew
  have hel := hx.el
  obtain ⟨a, g, p1, p2, p3, p4, p5, p6, p7, p8, _, _⟩ := h
  have hG : G.length = g := by rw [p7, List.length_take]; omega
  have hst : x.step f = (g : Int) - (a : Int) := by
    unfold LE.step; rw [hf, p8, p6, u_sub]; exact u_small (by omega) (by omega)
  unfold LE.acked
  by_cases c : 0 < x.step f ∧ x.step f ≤ (x.ever : Int)
  · rw [if_pos c]
    show (x.bodies.drop _).length + _ = _
    rw [List.length_drop]; omega
  · rw [if_neg c]; omega
/-- the frame at a place is the next one, if as many are told as stand ahead of it -/
theorem Dir.next {S G : List ByteArray} (h : Dir f0 x y S G ox oy) (hx : x.Ok) {f : Fr} (hfit : y.fits f = true) (hk : f.kind = 1) (m : Nat) (hm : m ≤ 64) (hs : f.seq = u (x.first + (m : Int))) :
    y.isNext f = decide (S.length - x.bodies.length + m = G.length) := by
  have hw8 := hx.w8
  have hew := hx.ew
  have hel := hx.el
  obtain ⟨a, g, p1, p2, p3, p4, p5, p6, p7, p8, _, _⟩ := h
  have hG : G.length = g := by rw [p7, List.length_take]; omega
  unfold LE.isNext
  rw [hfit, decide_eq_true hk, Bool.true_and, Bool.true_and]
  congr 1
  rw [hs, p6, u_add, p8]
  refine propext ⟨fun e => ?_, fun e => ?_⟩
  · have := u_inj (f := f0) (a := ((a + m : Nat) : Int)) (b := (g : Int)) (by rw [← e]; congr 1; omega) (by omega) (by omega) (by omega) (by omega)
    omega
  · congr 1; omega
theorem data_right (hs : x.Small) (he : y.epoch = x.epoch) {i : Nat} (hi : i < x.bodies.length) : y.fits (x.data i) = true := by
  have hb : (x.bodies.getD i ⟨#[]⟩).size ≤ 64 := by
    rw [List.getD_eq_getElem?_getD, List.getElem?_eq_getElem hi]
    exact hs.2.2 _ (List.getElem_mem hi)
  unfold LE.fits Fr.right LE.data
  rw [Bool.and_eq_true, decide_eq_true_eq, decide_eq_true_eq]
  exact ⟨⟨hs.1, hs.2.1, hb, .inl rfl⟩, he.symm⟩
theorem ack_right (hs : x.Small) (he : y.epoch = x.epoch) : y.fits ⟨2, x.epoch, 0, x.want, ⟨#[]⟩⟩ = true := by
  unfold LE.fits Fr.right
  simp [hs.1, hs.2.1, he]
  decide

/-- so many of the frames came -/
structure Half (f0 : Int) (x y : LE) (Sx Sy Gx Gy : List ByteArray) (ox oy : List Fr) (m : Nat) (s : LE × List ByteArray) : Prop where
  pair : Pair f0 x.gone s.1 Sx Sy Gx s.2 (ox ++ x.goes) oy
  told : s.2.length = max Gy.length (Sx.length - x.bodies.length + m)
  acked : 0 < m → s.1.bodies.length + Gx.length = Sy.length ∧ s.1.owes = true
  none : m = 0 → s = (y, Gy)
  out : y.out = 0 → s.1.out = 0
  epoch : s.1.epoch = y.epoch
  window : s.1.window = y.window
  sub : ∀ b ∈ s.1.bodies, b ∈ y.bodies
  len : s.1.bodies.length ≤ y.bodies.length
theorem Half.start (h : Pair f0 x y Sx Sy Gx Gy ox oy) : Half f0 x y Sx Sy Gx Gy ox oy 0 (y, Gy) := by
  refine ⟨h.gone, ?_, fun h => absurd h (by omega), fun _ => rfl, id, rfl, rfl, fun b hb => hb, Nat.le_refl _⟩
  have hel := h.okx.el
  obtain ⟨a, g, p1, p2, p3, p4, p5, p6, p7, p8, _, _⟩ := h.fwd
  have hG : Gy.length = g := by rw [p7, List.length_take]; omega
  show Gy.length = _
  omega
theorem Half.step {m : Nat} {s : LE × List ByteArray} (h : Half f0 x y Sx Sy Gx Gy ox oy m s) (hx : x.out = 0) (hs : x.Small) (he : y.epoch = x.epoch) (hm : m < x.most) : Half f0 x y Sx Sy Gx Gy ox oy (m + 1) (come s (x.data m)) := by
  have hml : m < x.bodies.length := by unfold LE.most at hm; omega
  have hfit := data_right (y := s.1) hs (by rw [h.epoch]; exact he) hml
  have hmem : x.data m ∈ ox ++ x.goes := by
    refine List.mem_append_right _ ?_
    unfold LE.goes LE.datas
    refine List.mem_append_left _ (List.mem_map.2 ⟨m, List.mem_range'_1.2 (by omega), rfl⟩)
  have h64 : x.bodies.length ≤ 64 := Nat.le_trans h.pair.okx.len h.pair.okx.q64
  have hnx := h.pair.fwd.next h.pair.okx hfit rfl m (by omega) rfl
  have hpair := h.pair.symm.taken hmem
  have hall := h.pair.back.acked_all h.pair.oky (f := x.data m) rfl
  obtain ⟨t1, t2, t3, _⟩ := taken_is s.1 (x.data m) hfit
  obtain ⟨q1, q2, q3, q4⟩ := came_sub s.1 (x.data m)
  obtain ⟨k1, k2⟩ := taken_keep s.1 (x.data m)
  have hnx' : s.1.isNext (x.data m) = decide (Sx.length - x.bodies.length + m = s.2.length) := hnx
  refine ⟨hpair.symm, ?_, fun _ => ⟨by show (s.1.taken _).bodies.length + _ = _; rw [t1]; exact hall, t3 rfl⟩, fun h => absurd h (by omega), ?_, k1.trans h.epoch, k2.trans h.window, ?_, ?_⟩
  · have ht := h.told
    show (if s.1.isNext (x.data m) then s.2 ++ [s.1.told (x.data m)] else s.2).length = _
    rw [hnx']
    by_cases c : Sx.length - x.bodies.length + m = s.2.length
    · rw [decide_eq_true c, if_pos rfl, List.length_append, List.length_singleton]; omega
    · rw [decide_eq_false c, if_neg (by simp)]; omega
  · intro hy
    show (s.1.taken _).out = 0
    rw [t2]; exact q3 (h.out hy)
  · intro b hb
    have hb : b ∈ (s.1.taken (x.data m)).bodies := hb
    rw [t1] at hb
    exact h.sub b (q2 b hb)
  · show (s.1.taken _).bodies.length ≤ _
    rw [t1]; exact Nat.le_trans q1 h.len
theorem Half.all (h : Pair f0 x y Sx Sy Gx Gy ox oy) (hx : x.out = 0) (hs : x.Small) (he : y.epoch = x.epoch) : ∀ m, m ≤ x.most → Half f0 x y Sx Sy Gx Gy ox oy m (comes (y, Gy) ((List.range' 0 m).map x.data)) := by
  intro m
  induction m with
  | zero => intro _; exact Half.start h
  | succ m ih =>
    intro hm
    rw [List.range'_concat, List.map_append, List.map_singleton, comes_snoc]
    have := (ih (by omega)).step hx hs he (m := m) (by omega)
    rwa [show 0 + 1 * m = m from by omega]
/-- all that goes out of one end comes to the other one -/
structure Went (f0 : Int) (x y : LE) (Sx Sy Gx Gy : List ByteArray) (s : LE × List ByteArray) : Prop where
  pair : ∃ ox oy, Pair f0 x.gone s.1 Sx Sy Gx s.2 ox oy
  told : s.2.length = Sx.length - x.bodies.length + x.most
  acked : x.bodies ≠ [] ∨ x.owes = true → s.1.bodies.length + Gx.length = Sy.length
  owes : x.bodies ≠ [] → s.1.owes = true
  out : y.out = 0 → s.1.out = 0
  epoch : s.1.epoch = y.epoch
  window : s.1.window = y.window
  sub : ∀ b ∈ s.1.bodies, b ∈ y.bodies
  len : s.1.bodies.length ≤ y.bodies.length
theorem Went.of (h : Pair f0 x y Sx Sy Gx Gy ox oy) (hx : x.out = 0) (hs : x.Small) (he : y.epoch = x.epoch) : Went f0 x y Sx Sy Gx Gy (comes (y, Gy) x.goes) := by
  have hw1 := h.okx.w1
  have hew := h.okx.ew
  have hel := h.okx.el
  have hd := Half.all h hx hs he x.most (Nat.le_refl _)
  have htold : max Gy.length (Sx.length - x.bodies.length + x.most) = Sx.length - x.bodies.length + x.most := by
    obtain ⟨a, g, p1, p2, p3, p4, p5, p6, p7, p8, _, _⟩ := h.fwd
    have hG : Gy.length = g := by rw [p7, List.length_take]; omega
    unfold LE.most; omega
  have hgo : x.goes = (List.range' 0 x.most).map x.data ++ x.acks := by unfold LE.goes LE.datas; rw [hx]; rfl
  by_cases hb : x.bodies = []
  · have hm : x.most = 0 := by unfold LE.most; rw [hb]; simp
    have h0 := hd.none hm
    cases ho : x.owes
    · have : x.goes = (List.range' 0 x.most).map x.data := by rw [hgo]; unfold LE.acks; rw [if_neg (by simp [ho]), List.append_nil]
      rw [this]
      exact ⟨⟨_, _, hd.pair⟩, hd.told.trans htold, (fun h => h.elim (fun h => absurd hb h) (fun h => absurd (ho.symm.trans h) (by decide))), fun h => absurd hb h, hd.out, hd.epoch, hd.window, hd.sub, hd.len⟩
    · have hak : x.acks = [⟨2, x.epoch, 0, x.want, ⟨#[]⟩⟩] := by unfold LE.acks; rw [if_pos ⟨by omega, ho⟩]
      have hmem : (⟨2, x.epoch, 0, x.want, ⟨#[]⟩⟩ : Fr) ∈ ox ++ x.goes := by rw [hgo, hak]; simp
      rw [hgo, hak, comes_snoc]
      generalize comes (y, Gy) ((List.range' 0 x.most).map x.data) = s at *
      have hfit := ack_right (y := s.1) hs (by rw [hd.epoch]; exact he)
      have hall := hd.pair.back.acked_all hd.pair.oky (f := ⟨2, x.epoch, 0, x.want, ⟨#[]⟩⟩) rfl
      have hpair := hd.pair.symm.taken hmem
      have hn : s.1.isNext ⟨2, x.epoch, 0, x.want, ⟨#[]⟩⟩ = false := by unfold LE.isNext; simp
      obtain ⟨t1, t2, _, _⟩ := taken_is s.1 _ hfit
      obtain ⟨q1, q2, q3, q4⟩ := came_sub s.1 ⟨2, x.epoch, 0, x.want, ⟨#[]⟩⟩
      obtain ⟨k1, k2⟩ := taken_keep s.1 ⟨2, x.epoch, 0, x.want, ⟨#[]⟩⟩
      refine ⟨⟨_, _, hpair.symm⟩, ?_, fun _ => by show (s.1.taken _).bodies.length + _ = _; rw [t1]; exact hall, fun h => absurd hb h, ?_, k1.trans hd.epoch, k2.trans hd.window, ?_, ?_⟩
      · show (if s.1.isNext ⟨2, x.epoch, 0, x.want, ⟨#[]⟩⟩ then s.2 ++ [s.1.told ⟨2, x.epoch, 0, x.want, ⟨#[]⟩⟩] else s.2).length = _
        rw [hn, if_neg (by simp)]; exact hd.told.trans htold
      · intro hy
        show (s.1.taken _).out = 0
        rw [t2]; exact q3 (hd.out hy)
      · intro b hb'
        have hb' : b ∈ (s.1.taken ⟨2, x.epoch, 0, x.want, ⟨#[]⟩⟩).bodies := hb'
        rw [t1] at hb'
        exact hd.sub b (q2 b hb')
      · show (s.1.taken _).bodies.length ≤ _
        rw [t1]; exact Nat.le_trans q1 hd.len
  · have hpos : 0 < x.bodies.length := List.length_pos_iff.2 hb
    have hm : 0 < x.most := by unfold LE.most; omega
    have : x.goes = (List.range' 0 x.most).map x.data := by rw [hgo]; unfold LE.acks; rw [if_neg (by omega), List.append_nil]
    rw [this]
    obtain ⟨a1, a2⟩ := hd.acked hm
    exact ⟨⟨_, _, hd.pair⟩, hd.told.trans htold, fun _ => a1, fun _ => a2, hd.out, hd.epoch, hd.window, hd.sub, hd.len⟩
/-- a round: much time passes, and what goes out comes, first this way, then that -/
structure St where
  x : LE
  y : LE
  gx : List ByteArray
  gy : List ByteArray
def round (s : St) : St :=
  let x1 := s.x.ticks 100
  let y1 := s.y.ticks 100
  let p := comes (y1, s.gy) x1.goes
  let q := comes (x1.gone, s.gx) p.1.goes
  ⟨q.1, p.1.gone, q.2, p.2⟩
structure Rd (f0 : Int) (Sx Sy : List ByteArray) (r : Nat) (s : St) : Prop where
  pair : ∃ ox oy, Pair f0 s.x s.y Sx Sy s.gx s.gy ox oy
  epoch : s.y.epoch = s.x.epoch
  smallx : s.x.Small
  smally : s.y.Small
  one : s.x.bodies.length + r ≤ 64 ∨ s.x.bodies = []
  two : 1 ≤ r → s.y.bodies = [] ∨ (s.x.owes = true ∧ Sy.length - s.gx.length + r ≤ 65)
theorem told_le {S G : List ByteArray} (h : Dir f0 x y S G ox oy) (hx : x.Ok) : S.length - G.length ≤ x.bodies.length ∧ (x.bodies = [] → S.length - G.length = 0) ∧ G.length ≤ S.length ∧ x.bodies.length ≤ S.length := by
  have hel := hx.el
  obtain ⟨a, g, p1, p2, p3, p4, p5, p6, p7, p8, _, _⟩ := h
  have hG : G.length = g := by rw [p7, List.length_take]; omega
  refine ⟨by omega, fun e => ?_, by omega, by omega⟩
  rw [e] at p3; simp at p3; omega
theorem Rd.step {Sx Sy : List ByteArray} {r : Nat} {s : St} (h : Rd f0 Sx Sy r s) : Rd f0 Sx Sy (r + 1) (round s) := by
  obtain ⟨ox, oy, hp⟩ := h.pair
  have hp1 := ((hp.ticks 100).symm.ticks 100).symm
  obtain ⟨b1, o1, e1, w1, n1⟩ := ticks_same s.x 100
  obtain ⟨b2, o2, e2, w2, n2⟩ := ticks_same s.y 100
  have hx0 := ticks_out s.x hp.okx
  have hy0 := ticks_out s.y hp.oky
  have hsx : (s.x.ticks 100).Small := ⟨by rw [e1]; exact h.smallx.1, by rw [e1]; exact h.smallx.2.1, by rw [b1]; exact h.smallx.2.2⟩
  have W1 := Went.of hp1 hx0 hsx (by rw [e1, e2]; exact h.epoch)
  have hr : round s = ⟨(comes ((s.x.ticks 100).gone, s.gx) (comes (s.y.ticks 100, s.gy) (s.x.ticks 100).goes).1.goes).1, (comes (s.y.ticks 100, s.gy) (s.x.ticks 100).goes).1.gone,
      (comes ((s.x.ticks 100).gone, s.gx) (comes (s.y.ticks 100, s.gy) (s.x.ticks 100).goes).1.goes).2, (comes (s.y.ticks 100, s.gy) (s.x.ticks 100).goes).2⟩ := rfl
  rw [hr]
  have hX : (s.x.ticks 100).Ok := hp1.okx
  generalize comes (s.y.ticks 100, s.gy) (s.x.ticks 100).goes = P at *
  generalize s.x.ticks 100 = X at *
  generalize s.y.ticks 100 = Y at *
  clear hr
  obtain ⟨ox2, oy2, hp2⟩ := W1.pair
  have hpo := W1.out hy0
  have hpe : P.1.epoch = s.x.epoch := by rw [W1.epoch, e2]; exact h.epoch
  have hsy : P.1.Small := ⟨by rw [hpe]; exact h.smallx.1, by rw [hpe]; exact h.smallx.2.1, fun b hb => h.smally.2.2 b (by rw [← b2]; exact W1.sub b hb)⟩
  have hge : X.gone.epoch = s.x.epoch := e1
  have W2 := Went.of hp2.symm hpo hsy (by rw [hge, hpe])
  generalize comes (X.gone, s.gx) P.1.goes = Q at *
  obtain ⟨ox3, oy3, hp3⟩ := W2.pair
  have hxg : X.gone.bodies = s.x.bodies := b1
  have hxm : X.most = min X.window s.x.bodies.length := by unfold LE.most; rw [b1]
  have hw := hX.w1
  have hPw := hp2.oky.w1
  have hPm : P.1.most = min P.1.window P.1.bodies.length := rfl
  have ht1 := W1.told
  have ht2 := W2.told
  have hl2 := W2.len
  rw [hxg] at hl2
  rw [b1] at ht1
  have c1 : Sy.length - Q.2.length ≤ P.1.bodies.length := (told_le hp3.fwd hp3.okx).1
  have c3 : Q.2.length ≤ Sy.length := (told_le hp3.fwd hp3.okx).2.2.1
  obtain ⟨d1, d2, d3, d4⟩ := told_le hp2.back hp2.oky
  refine ⟨⟨oy3, ox3, hp3.symm⟩, ?_, ⟨?_, ?_, ?_⟩, ⟨?_, ?_, ?_⟩, ?_, ?_⟩
  · show P.1.epoch = Q.1.epoch
    rw [W2.epoch, hpe, hge]
  · show 0 ≤ Q.1.epoch
    rw [W2.epoch, hge]; exact h.smallx.1
  · show Q.1.epoch ≤ 65535
    rw [W2.epoch, hge]; exact h.smallx.2.1
  · intro b hb
    exact h.smallx.2.2 b (by rw [← hxg]; exact W2.sub b hb)
  · show 0 ≤ P.1.epoch
    rw [hpe]; exact h.smallx.1
  · show P.1.epoch ≤ 65535
    rw [hpe]; exact h.smallx.2.1
  · exact hsy.2.2
  · show Q.1.bodies.length + (r + 1) ≤ 64 ∨ Q.1.bodies = []
    by_cases hb : s.x.bodies = []
    · right
      rw [hb] at hl2
      exact List.length_eq_zero_iff.1 (by simpa using hl2)
    · left
      have hone := h.one.resolve_right hb
      have hpos := List.length_pos_iff.2 hb
      have ho := W1.owes (by rw [b1]; exact hb)
      have hac := W2.acked (.inr ho)
      have := (told_le hp2.fwd hp2.okx).2.2.2
      rw [hxg] at this
      omega
  · intro _
    show P.1.bodies = [] ∨ (Q.1.owes = true ∧ Sy.length - Q.2.length + (r + 1) ≤ 65)
    by_cases hb : P.1.bodies = []
    · exact .inl hb
    · right
      have hpos := List.length_pos_iff.2 hb
      refine ⟨W2.owes hb, ?_⟩
      rcases Nat.eq_zero_or_pos r with h0 | h0
      · subst h0
        have := hp2.oky.len
        have := hp2.oky.q64
        omega
      · rcases h.two h0 with h2 | ⟨h2, h3⟩
        · exfalso
          have := W1.len
          rw [b2, h2] at this
          simp at this
          exact hb this
        · have hac := W1.acked (.inr (by rw [o1]; exact h2))
          omega
theorem Rd.many {Sx Sy : List ByteArray} {s : St} (h : Rd f0 Sx Sy 0 s) : ∀ n, Rd f0 Sx Sy n (Nat.rec s (fun _ t => round t) n) := by
  intro n
  induction n with
  | zero => exact h
  | succ n ih => exact ih.step
/-- behind sixty-six rounds all is told, and nothing waits -/
theorem Rd.law {Sx Sy : List ByteArray} {s : St} (h : Rd f0 Sx Sy 66 s) : s.gy = Sx ∧ s.gx = Sy ∧ s.x.bodies = [] ∧ s.y.bodies = [] := by
  obtain ⟨ox, oy, hp⟩ := h.pair
  have hx : s.x.bodies = [] := h.one.resolve_left (by omega)
  have hy : s.y.bodies = [] := (h.two (by omega)).resolve_right (by omega)
  have a1 := hp.fwd.law hp.okx
  have a2 := hp.back.law hp.oky
  have b1 := (told_le hp.fwd hp.okx).2.1 hx
  have b2 := (told_le hp.back hp.oky).2.1 hy
  refine ⟨?_, ?_, hx, hy⟩
  · rw [a1.1, List.take_of_length_le (by omega)]
  · rw [a2.1, List.take_of_length_le (by omega)]
end
end Go.Proofs.YtihhflajkohibaaGreatDoor.Link
