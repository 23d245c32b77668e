/- Layer 10, plain: a pipe, the bytes that went, and what was sent: what an act makes of them, and what is kept. No function of the program. -/
import Derived.Test.YtihhflajkohibaaDoorPipePlain
namespace Go.Proofs.YtihhflajkohibaaDoor.Pipe
set_option linter.unusedSimpArgs false
set_option linter.unusedVariables false
set_option maxRecDepth 100000
open Go.Proofs.YtihhflajkohibaaDoor.Link (LE Fr Pair Dir)
open Go.Proofs.YtihhflajkohibaaDoor.Net (NS)
/-- what goes on its way stands behind all else -/
theorem way_news (a b : Int) (f : Fr) (w : NS × Nat) : ∃ L, (way a b w f).1.f a b = w.1.f a b ++ L ∧ w.2 + L.length = (way a b w f).2 ∧ (∀ x, x ∈ L → f.right = true ∧ x = bytes f) ∧ (∀ x y, ¬ (x = a ∧ y = b) → (way a b w f).1.f x y = w.1.f x y) ∧ (way a b w f).1.n = w.1.n ∧ (way a b w f).1.m = w.1.m := by
  unfold way
  by_cases hr : f.right = true
  · rw [if_pos hr]
    unfold NS.send
    cases hs : w.1.sendOk a b
    · exact ⟨[], by simp, by simp, by simp, fun _ _ _ => rfl, rfl, rfl⟩
    · refine ⟨[bytes f], ?_, by simp, ?_, ?_, rfl, rfl⟩
      · simp only [if_true]; rw [NS.set_same]
      · intro x hx; exact ⟨hr, List.mem_singleton.1 hx⟩
      · intro x y h; simp only [if_true]; exact NS.set_other _ _ _ _ _ _ h
  · rw [if_neg hr]
    exact ⟨[], by simp, by simp, by simp, fun _ _ _ => rfl, rfl, rfl⟩
theorem ways_news (a b : Int) (l : List Fr) : ∀ w : NS × Nat, ∃ L, (ways a b w l).1.f a b = w.1.f a b ++ L ∧ w.2 + L.length = (ways a b w l).2 ∧ (∀ x, x ∈ L → ∃ f, f ∈ l ∧ f.right = true ∧ x = bytes f) ∧ (∀ x y, ¬ (x = a ∧ y = b) → (ways a b w l).1.f x y = w.1.f x y) ∧ (ways a b w l).1.n = w.1.n ∧ (ways a b w l).1.m = w.1.m ∧ (ways a b w l).2 ≤ w.2 + l.length := by
  induction l with
  | nil => intro w; exact ⟨[], by simp [ways], by simp [ways], by simp, fun _ _ _ => rfl, rfl, rfl, Nat.le_refl _⟩
  | cons f l ih =>
    intro w
    obtain ⟨L1, a1, a2, a3, a4, a5, a6⟩ := way_news a b f w
    obtain ⟨L2, b1, b2, b3, b4, b5, b6, b7⟩ := ih (way a b w f)
    have hl1 : L1.length ≤ 1 := by
      have : (way a b w f).2 ≤ w.2 + 1 := by unfold way; split <;> (try split) <;> simp
      omega
    refine ⟨L1 ++ L2, ?_, ?_, ?_, ?_, ?_, ?_, ?_⟩
    · show (ways a b (way a b w f) l).1.f a b = _
      rw [b1, a1, List.append_assoc]
    · show _ = (ways a b (way a b w f) l).2
      rw [List.length_append]; omega
    · intro x hx
      rcases List.mem_append.1 hx with hx | hx
      · exact ⟨f, by simp, a3 x hx⟩
      · obtain ⟨g, h1, h2⟩ := b3 x hx
        exact ⟨g, List.mem_cons_of_mem _ h1, h2⟩
    · intro x y h
      show (ways a b (way a b w f) l).1.f x y = _
      rw [b4 x y h, a4 x y h]
    · show (ways a b (way a b w f) l).1.n = _
      rw [b5, a5]
    · show (ways a b (way a b w f) l).1.m = _
      rw [b6, a6]
    · show (ways a b (way a b w f) l).2 ≤ _
      rw [List.length_cons]; omega
namespace PS
/-- all that is on its way to a side -/
def row (s : PS) (me : Bool) : List ByteArray := s.n.f (no (!me)) (no me)
theorem row_other (s : PS) (me : Bool) : s.row (!me) = s.n.f (no me) (no (!me)) := by unfold row; rw [Bool.not_not]
def news (s : PS) (me : Bool) : List ByteArray := ((s.go me).row (!me)).drop ((s.row (!me)).length)
theorem go_row (s : PS) (me : Bool) : (s.go me).row (!me) = s.row (!me) ++ s.news me ∧ (s.news me).length = (s.gone me).2 ∧ (∀ x, x ∈ s.news me → ∃ f, f ∈ (s.e me).goes ∧ f.right = true ∧ x = bytes f) ∧ (s.go me).row me = s.row me ∧ (s.go me).n.n = s.n.n ∧ (s.go me).n.m = s.n.m ∧ (s.gone me).2 ≤ (s.e me).goes.length := by
  obtain ⟨L, h1, h2, h3, h4, h5, h6, h7⟩ := ways_news (no me) (no (!me)) (s.e me).goes (s.n, 0)
  have hr : (s.go me).row (!me) = s.row (!me) ++ L := by rw [row_other, row_other]; exact h1
  have hn : s.news me = L := by unfold news; rw [hr, List.drop_left]
  refine ⟨by rw [hn]; exact hr, by rw [hn]; simpa [gone] using h2, by rw [hn]; exact h3, ?_, h5, h6, by simpa [gone] using h7⟩
  refine h4 (no (!me)) (no me) ?_
  rintro ⟨e, _⟩
  cases me <;> exact absurd e (by decide)
theorem has_row (s : PS) (me : Bool) (k : Int) : s.has me k = decide (0 ≤ k ∧ k < ((s.row me).length : Int)) := rfl
theorem look_row (s : PS) (me : Bool) (k : Nat) (hk : k < (s.row me).length) : s.look me (k : Int) = (s.row me)[k] := by
  unfold look NS.look
  have h : s.n.isAt (no (!me)) (no me) (k : Int) = true := decide_eq_true ⟨by omega, by have : (s.row me).length = (s.n.f (no (!me)) (no me)).length := rfl; omega⟩
  rw [if_pos h, List.getD_eq_getElem?_getD, Int.toNat_natCast]
  have : (s.n.f (no (!me)) (no me))[k]? = some (s.row me)[k] := List.getElem?_eq_getElem hk
  rw [this]; rfl
theorem look_mem' (s : PS) (me : Bool) (k : Int) (h : s.has me k = true) : s.look me k ∈ s.row me := look_mem h
end PS
/-- a pipe, what went to a side, what was sent by a side -/
structure T10 where
  s : PS
  w : Bool → List ByteArray
  t : Bool → List ByteArray
namespace T10
variable (t : T10) (me : Bool)
def send (b : ByteArray) : T10 := { t with s := t.s.send me b, t := up t.t me (if (t.s.e me).sendE b = 0 then t.t me ++ [b] else t.t me) }
def go : T10 := { t with s := t.s.go me, w := up t.w (!me) (t.w (!me) ++ t.s.news me) }
def pipe (s : PS) : T10 := { t with s := s }
/-- bytes come that are a frame, and never went -/
def bad (k : Int) : Prop := t.s.frameB me k = true ∧ t.s.look me k ∉ t.w me
end T10
structure Inv (f0 : Int) (k : Nat) (t : T10) : Prop where
  pair : ∃ o : Bool → List Fr, Pair f0 (t.s.e false) (t.s.e true) (t.t false) (t.t true) (t.s.g false) (t.s.g true) (o false) (o true) ∧ ∀ b x, x ∈ t.w (!b) → ∃ f, f ∈ o b ∧ f.right = true ∧ Frame.Fits f ∧ x = bytes f
  short : Short t.s.n
  tl : ∀ b, (t.t b).length ≤ k
  wl : ∀ b, (t.w b).length ≤ 1000 * k
section
variable {f0 : Int} {k : Nat} {t : T10}
theorem up_len {α : Type} (f : Bool → List α) (me : Bool) (l : List α) (n : Nat) (h : ∀ b, (f b).length ≤ n) (hl : l.length ≤ n) : ∀ b, (up f me l b).length ≤ n := by
  intro b; unfold up; split
  · exact hl
  · exact h b
theorem goes_le {x : LE} (hx : x.Ok) : x.goes.length ≤ 1000 := by
  have h1 := hx.w8
  unfold LE.goes
  rw [List.length_append]
  unfold LE.datas LE.acks LE.most
  rw [List.length_map, List.length_range']
  split <;> simp <;> omega
theorem Inv.ok (h : Inv f0 k t) (b : Bool) : (t.s.e b).Ok := by
  obtain ⟨o, hp, _⟩ := h.pair
  cases b
  · exact hp.okx
  · exact hp.oky
theorem Inv.start (epoch first window queue wait room : Int) (hu : Link.u first = first) : Inv first 0 ⟨new epoch first window queue wait room, fun _ => [], fun _ => []⟩ :=
  ⟨⟨fun _ => [], Pair.start epoch window queue wait first hu, fun b x hx => by simp at hx⟩, new_short _ _, fun _ => Nat.le_refl _, fun _ => Nat.zero_le _⟩
theorem Inv.more (h : Inv f0 k t) : Inv f0 (k + 1) t := ⟨h.pair, h.short, fun b => Nat.le_trans (h.tl b) (by omega), fun b => Nat.le_trans (h.wl b) (by omega)⟩
theorem Inv.send (h : Inv f0 k t) (me : Bool) (b : ByteArray) (hk : k < 500) : Inv f0 (k + 1) (t.send me b) := by
  obtain ⟨o, hp, hw⟩ := h.pair
  refine ⟨⟨o, ?_, hw⟩, h.short, ?_, fun b => Nat.le_trans (h.wl b) (by omega)⟩
  · have h1 := h.tl false
    have h2 := h.tl true
    cases me
    · exact hp.sent b (by omega)
    · exact (hp.symm.sent b (by omega)).symm
  · have h1 := h.tl me
    refine up_len t.t me _ (k + 1) (fun c => Nat.le_trans (h.tl c) (by omega)) ?_
    split
    · rw [List.length_append]; simp; omega
    · omega
theorem Inv.go (h : Inv f0 k t) (me : Bool) : Inv f0 (k + 1) (t.go me) := by
  obtain ⟨o, hp, hw⟩ := h.pair
  obtain ⟨r1, r2, r3, r4, r5, r6, r7⟩ := t.s.go_row me
  have hgl := goes_le (h.ok me)
  refine ⟨⟨up o me (o me ++ (t.s.e me).goes), ?_, ?_⟩, PS.short_go h.short, fun b => Nat.le_trans (h.tl b) (by omega), ?_⟩
  · cases me
    · exact hp.gone
    · exact (hp.symm.gone).symm
  · intro b x hx
    by_cases e : b = me
    · subst e
      have hx' : x ∈ t.w (!b) ++ t.s.news b := by
        have : up t.w (!b) (t.w (!b) ++ t.s.news b) (!b) = t.w (!b) ++ t.s.news b := up_same _ _ _
        have hx2 : x ∈ up t.w (!b) (t.w (!b) ++ t.s.news b) (!b) := hx
        rwa [this] at hx2
      rw [up_same]
      rcases List.mem_append.1 hx' with hx' | hx'
      · obtain ⟨f, q1, q2⟩ := hw b x hx'
        exact ⟨f, List.mem_append_left _ q1, q2⟩
      · obtain ⟨f, q1, q2, q3⟩ := r3 x hx'
        exact ⟨f, List.mem_append_right _ q1, q2, goes_fits (h.ok b) q1, q3⟩
    · obtain rfl : b = !me := by cases b <;> cases me <;> first | rfl | exact absurd rfl e
      have hx' : x ∈ t.w (!!me) := by
        have hx2 : x ∈ up t.w (!me) (t.w (!me) ++ t.s.news me) (!!me) := hx
        rwa [up_other] at hx2
      rw [up_other]
      exact hw (!me) x hx'
  · refine up_len t.w (!me) _ (1000 * (k + 1)) (fun c => Nat.le_trans (h.wl c) (by omega)) ?_
    have := h.wl (!me)
    rw [List.length_append]; omega
theorem Inv.tick (h : Inv f0 k t) (me : Bool) : Inv f0 k (t.pipe (t.s.tick me)) := by
  obtain ⟨o, hp, hw⟩ := h.pair
  refine ⟨⟨o, ?_, hw⟩, h.short, h.tl, h.wl⟩
  cases me
  · exact hp.ticked
  · exact (hp.symm.ticked).symm
theorem Inv.net (h : Inv f0 k t) (n : NS) (hn : Short n) : Inv f0 k (t.pipe { t.s with n := n }) := by
  obtain ⟨o, hp, hw⟩ := h.pair
  exact ⟨⟨o, hp, hw⟩, hn, h.tl, h.wl⟩
theorem Inv.take (h : Inv f0 k t) (me : Bool) (f : Fr) (hr : f.right = true) (hw : bytes f ∈ t.w me) (hf : Frame.Fits f) (n : NS) (hn : Short n) : Inv f0 k (t.pipe (({ t.s with n := n } : PS).take me (Frame.get (bytes f).data.toList))) := by
  obtain ⟨o, hp, hwo⟩ := h.pair
  have hb : (bytes f).data.toList = Frame.put f := by unfold bytes; simp
  rw [hb, Frame.get_put f hr hf]
  obtain ⟨f', q1, q2, q3, q4⟩ := hwo (!me) (bytes f) (by rw [Bool.not_not]; exact hw)
  have hb' : (bytes f').data.toList = Frame.put f' := by unfold bytes; simp
  have hff : f = f' := Frame.put_inj hr q2 hf q3 (by rw [← hb, ← hb', q4])
  subst hff
  refine ⟨⟨o, ?_, hwo⟩, hn, h.tl, h.wl⟩
  cases me
  · exact hp.taken q1
  · exact (hp.symm.taken q1).symm
theorem Inv.come (h : Inv f0 k t) (me : Bool) (n : Int) (hb : ¬ t.bad me n) : Inv f0 k (t.pipe (t.s.come me n)) := by
  have hl : Short (t.s.lose me n).n := PS.short_lose h.short n
  unfold PS.come
  cases hf : t.s.frameB me n
  · rw [if_neg (by simp)]
    exact h.net _ hl
  · rw [if_pos rfl]
    have hw : t.s.look me n ∈ t.w me := by
      by_cases c : t.s.look me n ∈ t.w me
      · exact c
      · exact absurd ⟨hf, c⟩ hb
    obtain ⟨o, hp, hwo⟩ := h.pair
    obtain ⟨f, q1, q2, q3, q4⟩ := hwo (!me) _ (by rw [Bool.not_not]; exact hw)
    have := h.take me f q2 (by rw [← q4]; exact hw) q3 _ hl
    rw [← q4] at this
    exact this
theorem Inv.lose (h : Inv f0 k t) (me : Bool) (n : Int) : Inv f0 k (t.pipe (t.s.lose me n)) := h.net _ (PS.short_lose h.short n)
theorem Inv.double (h : Inv f0 k t) (me : Bool) (n : Int) : Inv f0 k (t.pipe (t.s.double me n)) := h.net _ (PS.short_double h.short n)
theorem Inv.flip (h : Inv f0 k t) (me : Bool) (n x : Int) : Inv f0 k (t.pipe (t.s.flip me n x)) := h.net _ (PS.short_flip h.short n x)
theorem Inv.law (h : Inv f0 k t) (me : Bool) : t.s.g me = (t.t (!me)).take (t.s.g me).length ∧ (t.s.g me).length ≤ (t.t (!me)).length := by
  obtain ⟨o, hp, _⟩ := h.pair
  cases me
  · have := hp.back.law hp.oky; exact ⟨this.1, this.2.1⟩
  · have := hp.fwd.law hp.okx; exact ⟨this.1, this.2.1⟩
theorem Inv.gl (h : Inv f0 k t) (me : Bool) : (t.s.g me).length ≤ k := Nat.le_trans (h.law me).2 (h.tl (!me))
end
end Go.Proofs.YtihhflajkohibaaDoor.Pipe
