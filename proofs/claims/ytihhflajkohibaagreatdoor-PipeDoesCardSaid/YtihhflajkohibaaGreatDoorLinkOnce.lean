/- Layer 9, plain: two ends of a link, whatever of what they let out is taken, how often and in whatever order: each body is told once, in order. No function of the program. -/
import Derived.Test.YtihhflajkohibaaGreatDoorLinkPlain
namespace Go.Proofs.YtihhflajkohibaaGreatDoor.Link
set_option linter.unusedSimpArgs false
set_option linter.unusedVariables false
set_option maxRecDepth 100000

/-- from the end x to the end y: what x was given (S), what y was told (G), what each let out -/
def Dir (f0 : Int) (x y : LE) (S G : List ByteArray) (ox oy : List Fr) : Prop :=
  ∃ a g : Nat, a ≤ g ∧ g ≤ a + x.ever ∧ a + x.bodies.length = S.length ∧ S.length ≤ 500 ∧ x.bodies = S.drop a ∧ x.first = u (f0 + (a : Int)) ∧ G = S.take g ∧ y.want = u (f0 + (g : Int)) ∧
    (∀ f ∈ ox, f.kind = 1 → ∃ j : Nat, j < a + x.ever ∧ f.seq = u (f0 + (j : Int)) ∧ S[j]? = some f.body) ∧ (∀ f ∈ oy, ∃ h : Nat, h ≤ g ∧ f.ack = u (f0 + (h : Int)))
section
variable {f0 : Int} {x y : LE} {S G : List ByteArray} {ox oy : List Fr}
theorem Dir.start (epoch window queue wait : Int) (f0 : Int) (h : u f0 = f0) : Dir f0 (new epoch f0 window queue wait) (new epoch f0 window queue wait) [] [] [] [] :=
  ⟨0, 0, Nat.le_refl _, Nat.zero_le _, rfl, by simp, rfl, by simp [new, h], rfl, by simp [new, h], by simp, by simp⟩
/-- an act that leaves alone what is looked at here -/
theorem Dir.same (h : Dir f0 x y S G ox oy) {x' y' : LE} (h1 : x'.ever = x.ever) (h2 : x'.bodies = x.bodies) (h3 : x'.first = x.first) (h4 : y'.want = y.want) : Dir f0 x' y' S G ox oy := by
  obtain ⟨a, g, p1, p2, p3, p4, p5, p6, p7, p8, p9, p10⟩ := h
  exact ⟨a, g, p1, by rw [h1]; exact p2, by rw [h2]; exact p3, p4, by rw [h2]; exact p5, by rw [h3]; exact p6, p7, by rw [h4]; exact p8, by rw [h1]; exact p9, p10⟩
theorem Dir.sent (h : Dir f0 x y S G ox oy) (hx : x.Ok) (b : ByteArray) (hl : S.length < 500) : Dir f0 (x.sent b) y (if x.sendE b = 0 then S ++ [b] else S) G ox oy := by
  have hel := hx.el
  obtain ⟨a, g, p1, p2, p3, p4, p5, p6, p7, p8, p9, p10⟩ := h
  unfold LE.sent LE.sendE
  by_cases c1 : 64 < b.size
  · rw [if_pos c1, if_neg (by omega), if_neg (by omega)]
    exact ⟨a, g, p1, p2, p3, p4, p5, p6, p7, p8, p9, p10⟩
  · by_cases c2 : x.queue ≤ x.bodies.length
    · rw [if_neg c1, if_pos c2, if_neg (by omega), if_neg (by omega)]
      exact ⟨a, g, p1, p2, p3, p4, p5, p6, p7, p8, p9, p10⟩
    · rw [if_neg c1, if_neg c2, if_pos rfl, if_pos (by omega)]
      refine ⟨a, g, p1, p2, by simp; omega, by simp; omega, ?_, p6, ?_, p8, ?_, p10⟩
      · show x.bodies ++ [b] = _
        rw [List.drop_append_of_le_length (by omega), ← p5]
      · rw [p7, List.take_append_of_le_length (by omega)]
      · intro f hf hk
        obtain ⟨j, q1, q2, q3⟩ := p9 f hf hk
        have hj : j < S.length := (List.getElem?_eq_some_iff.1 q3).1
        exact ⟨j, q1, q2, by rw [List.getElem?_append_left hj]; exact q3⟩
theorem Dir.gone (h : Dir f0 x y S G ox oy) (hx : x.Ok) : Dir f0 x.gone y S G (ox ++ x.goes) oy := by
  have hew := hx.ew
  have hel := hx.el
  have hm : x.ever ≤ x.most := by unfold LE.most; omega
  have hml : x.most ≤ x.bodies.length := by unfold LE.most; omega
  obtain ⟨a, g, p1, p2, p3, p4, p5, p6, p7, p8, p9, p10⟩ := h
  refine ⟨a, g, p1, by show g ≤ a + x.most; omega, p3, p4, p5, p6, p7, p8, ?_, p10⟩
  intro f hf hk
  show ∃ j : Nat, j < a + x.most ∧ _
  rcases List.mem_append.1 hf with hf | hf
  · obtain ⟨j, q1, q2, q3⟩ := p9 f hf hk
    exact ⟨j, by omega, q2, q3⟩
  · unfold LE.goes at hf
    rcases List.mem_append.1 hf with hf | hf
    · unfold LE.datas at hf
      obtain ⟨i, hi, rfl⟩ := List.mem_map.1 hf
      have hi := List.mem_range'_1.1 hi
      refine ⟨a + i, by omega, ?_, ?_⟩
      · show u (x.first + (i : Int)) = _
        rw [p6, u_add]; congr 1; omega
      · have hlt : i < x.bodies.length := by omega
        show _ = some (x.bodies.getD i ⟨#[]⟩)
        rw [List.getD_eq_getElem?_getD, List.getElem?_eq_getElem hlt]
        have : x.bodies[i]? = S[a + i]? := by rw [p5, List.getElem?_drop]
        rw [← this, List.getElem?_eq_getElem hlt]; rfl
    · unfold LE.acks at hf
      split at hf
      · simp at hf; subst hf; simp at hk
      · cases hf
theorem goes_ack {f : Fr} (hf : f ∈ x.goes) : f.ack = x.want := by
  unfold LE.goes at hf
  rcases List.mem_append.1 hf with hf | hf
  · unfold LE.datas at hf
    obtain ⟨i, _, rfl⟩ := List.mem_map.1 hf; rfl
  · unfold LE.acks at hf
    split at hf
    · simp at hf; subst hf; rfl
    · cases hf
/-- the frames that the end lets out to which it is told -/
theorem Dir.gone_back (h : Dir f0 x y S G ox oy) : Dir f0 x y.gone S G ox (oy ++ y.goes) := by
  obtain ⟨a, g, p1, p2, p3, p4, p5, p6, p7, p8, p9, p10⟩ := h
  refine ⟨a, g, p1, p2, p3, p4, p5, p6, p7, p8, p9, ?_⟩
  intro f hf
  rcases List.mem_append.1 hf with hf | hf
  · exact p10 f hf
  · exact ⟨g, Nat.le_refl _, by rw [goes_ack hf]; exact p8⟩
/-- the end takes a frame that the other one let out: what it tells of what came -/
theorem Dir.acked (h : Dir f0 x y S G ox oy) (hx : x.Ok) {f : Fr} (hf : f ∈ oy) : Dir f0 (x.acked f) y S G ox oy := by
  have hew := hx.ew
  have hw8 := hx.w8
  have hel := hx.el
  unfold LE.acked
  by_cases c : 0 < x.step f ∧ x.step f ≤ (x.ever : Int)
  · rw [if_pos c]
    obtain ⟨a, g, p1, p2, p3, p4, p5, p6, p7, p8, p9, p10⟩ := h
    obtain ⟨h, q1, q2⟩ := p10 f hf
    have hst : x.step f = u ((h : Int) - (a : Int)) := by unfold LE.step; rw [q2, p6, u_sub]
    have hle : a ≤ h := by
      rcases Nat.lt_or_ge h a with hlt | hge
      · have := u_far (a := (h : Int)) (b := (a : Int)) (by omega) (by omega) (by omega)
        rw [← hst] at this; omega
      · exact hge
    have hst2 : x.step f = (h : Int) - (a : Int) := by rw [hst]; exact u_small (by omega) (by omega)
    obtain ⟨k, hk⟩ : ∃ k : Nat, x.step f = (k : Int) := ⟨h - a, by omega⟩
    rw [hk, Int.toNat_natCast]
    have hkh : a + k = h := by omega
    refine ⟨a + k, g, by omega, ?_, ?_, p4, ?_, ?_, p7, p8, ?_, p10⟩
    · show g ≤ a + k + (x.ever - k); omega
    · show a + k + (x.bodies.drop k).length = _; rw [List.length_drop]; omega
    · show x.bodies.drop k = _; rw [p5, List.drop_drop]
    · show u (x.first + (k : Int)) = _; rw [p6, u_add]; congr 1; omega
    · intro f' hf' hk'
      obtain ⟨j, r1, r2, r3⟩ := p9 f' hf' hk'
      exact ⟨j, by show j < a + k + (x.ever - k); omega, r2, r3⟩
  · rw [if_neg c]; exact h
/-- .. and its body, if it is the next one -/
theorem Dir.told (h : Dir f0 x y S G ox oy) (hx : x.Ok) {f : Fr} (hf : f ∈ ox) : Dir f0 x (y.taken f) S (if y.isNext f then G ++ [y.told f] else G) ox oy := by
  have hel := hx.el
  have hew := hx.ew
  cases hn : y.isNext f
  · have hw : (y.taken f).want = y.want := by
      unfold LE.taken
      by_cases c1 : y.fits f = true
      · rw [if_pos c1]
        by_cases c2 : f.kind = 1
        · rw [if_pos c2]
          by_cases c3 : f.seq = y.want
          · exfalso
            simp [LE.isNext, c1, c2, c3] at hn
          · rw [if_neg c3]; exact LE.acked_want f
        · rw [if_neg c2]; exact LE.acked_want f
      · rw [if_neg c1]
    exact h.same rfl rfl rfl hw
  · unfold LE.isNext at hn
    simp only [Bool.and_eq_true, decide_eq_true_eq] at hn
    obtain ⟨⟨c1, c2⟩, c3⟩ := hn
    obtain ⟨a, g, p1, p2, p3, p4, p5, p6, p7, p8, p9, p10⟩ := h
    obtain ⟨j, q1, q2, q3⟩ := p9 f hf c2
    have hj : j < S.length := (List.getElem?_eq_some_iff.1 q3).1
    have hjg : (j : Int) = (g : Int) := u_inj (f := f0) (by rw [← q2, c3, p8]) (by omega) (by omega) (by omega) (by omega)
    obtain rfl : j = g := by omega
    have ht : y.told f = f.body := by unfold LE.told; rw [if_pos (by unfold LE.isNext; simp [c1, c2, c3])]
    have hw : (y.taken f).want = u (y.want + 1) := by unfold LE.taken; rw [if_pos c1, if_pos c2, if_pos c3]
    refine ⟨a, j + 1, by omega, by omega, p3, p4, p5, p6, ?_, ?_, p9, ?_⟩
    · rw [if_pos rfl, p7, ht, List.take_add_one, q3]; rfl
    · rw [hw, p8, u_add]; congr 1; omega
    · intro f' hf'
      obtain ⟨h, r1, r2⟩ := p10 f' hf'
      exact ⟨h, by omega, r2⟩
theorem Dir.taken (h : Dir f0 x y S G ox oy) (hx : x.Ok) {f : Fr} (hf : f ∈ oy) : Dir f0 (x.taken f) y S G ox oy := by
  have h1 := h.acked hx hf
  unfold LE.taken
  split
  · split
    · split
      · exact h1.same rfl rfl rfl rfl
      · exact h1.same rfl rfl rfl rfl
    · exact h1
  · exact h
/-- what was told is a beginning of what was sent; what waits no more was told -/
theorem Dir.law (h : Dir f0 x y S G ox oy) (hx : x.Ok) : G = S.take G.length ∧ G.length ≤ S.length ∧ x.bodies.length ≤ S.length ∧ S.length - x.bodies.length ≤ G.length := by
  have hel := hx.el
  obtain ⟨a, g, p1, p2, p3, p4, p5, p6, p7, p8, p9, p10⟩ := h
  have hl : G.length = g := by rw [p7, List.length_take]; omega
  exact ⟨by rw [hl]; exact p7, by omega, by omega, by omega⟩
end

/-- two ends, what each was given and told, and what each let out -/
structure Pair (f0 : Int) (x y : LE) (Sx Sy Gx Gy : List ByteArray) (ox oy : List Fr) : Prop where
  fwd : Dir f0 x y Sx Gy ox oy
  back : Dir f0 y x Sy Gx oy ox
  okx : x.Ok
  oky : y.Ok
section
variable {f0 : Int} {x y : LE} {Sx Sy Gx Gy : List ByteArray} {ox oy : List Fr}
theorem Pair.symm (h : Pair f0 x y Sx Sy Gx Gy ox oy) : Pair f0 y x Sy Sx Gy Gx oy ox := ⟨h.back, h.fwd, h.oky, h.okx⟩
theorem Pair.start (epoch window queue wait : Int) (f0 : Int) (h : u f0 = f0) : Pair f0 (new epoch f0 window queue wait) (new epoch f0 window queue wait) [] [] [] [] [] [] :=
  ⟨Dir.start _ _ _ _ _ h, Dir.start _ _ _ _ _ h, new_ok _ _ _ _ _ h, new_ok _ _ _ _ _ h⟩
theorem Pair.sent (h : Pair f0 x y Sx Sy Gx Gy ox oy) (b : ByteArray) (hl : Sx.length < 500) : Pair f0 (x.sent b) y (if x.sendE b = 0 then Sx ++ [b] else Sx) Sy Gx Gy ox oy :=
  ⟨h.fwd.sent h.okx b hl, h.back.same rfl rfl rfl (by unfold LE.sent; split <;> rfl), h.okx.sent b, h.oky⟩
theorem Pair.gone (h : Pair f0 x y Sx Sy Gx Gy ox oy) : Pair f0 x.gone y Sx Sy Gx Gy (ox ++ x.goes) oy := ⟨h.fwd.gone h.okx, h.back.gone_back, h.okx.gone, h.oky⟩
theorem Pair.ticked (h : Pair f0 x y Sx Sy Gx Gy ox oy) : Pair f0 x.ticked y Sx Sy Gx Gy ox oy := by
  refine ⟨h.fwd.same ?_ ?_ ?_ rfl, h.back.same rfl rfl rfl ?_, h.okx.ticked, h.oky⟩ <;> unfold LE.ticked <;> split <;> (try split) <;> rfl
theorem Pair.taken (h : Pair f0 x y Sx Sy Gx Gy ox oy) {f : Fr} (hf : f ∈ oy) : Pair f0 (x.taken f) y Sx Sy (if x.isNext f then Gx ++ [x.told f] else Gx) Gy ox oy :=
  ⟨h.fwd.taken h.okx hf, h.back.told h.oky hf, h.okx.taken f, h.oky⟩
end
end Go.Proofs.YtihhflajkohibaaGreatDoor.Link
