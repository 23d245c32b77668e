/- Layer 8: a net in memory, and beside it the reference's value in a block. Conditions: both lie. -/
import Derived.Test.YtndiclkfincbgaaNetRefF
namespace Go.Proofs.Ytndiclkfincbgaa.Net
set_option linter.unusedSimpArgs false
set_option linter.unusedVariables false
open Go.RowKit
/-- the net s behind p, the value t in block B -/
structure Pic (w0 : World) (p B : Nat) (s t : NS) (F G : List Nat) (W : Option Addr) (c : Nat) (ws : List Way) (wr : World) : Prop where
  st : Stand w0 p s F wr
  box : wr.heap[B]? = some (.cells #[.int .i64 (t.n : Int), .int .i64 (t.m : Int), .slice W ws.length c] 29 (0, 0))
  ref : RefNet wr G (.agg #[.int .i64 (t.n : Int), .int .i64 (t.m : Int), .slice W ws.length c]) t W c ws
  bF : B ∉ F
  bG : B ∉ G
  ap : ∀ k, k ∈ G → k ∉ F
  newB : w0.heap.size ≤ B
/-- .. and an act in a block -/
structure PicB (w0 : World) (p B b : Nat) (a : Act8) (s t : NS) (F G : List Nat) (W : Option Addr) (c : Nat) (ws : List Way) (wr : World) : Prop where
  pic : Pic w0 p B s t F G W c ws wr
  act : wr.heap[b]? = some (.cells a.cells.toArray 32 (0, 0))
  nF : b ∉ F
  nB : b ≠ B
section
variable {w0 wr w' w'' : World} {p B b : Nat} {a : Act8} {s t s' t' : NS} {F G F' G' : List Nat} {W W' : Option Addr} {c c' : Nat} {ws ws' : List Way}
theorem Pic.turn (h : Pic w0 p B s t F G W c ws wr) (hn : NetIs w' p F' s') (ht : Turns F F' wr w') : Pic w0 p B s' t F' G W c ws w' := by
  have hB := lt_of_block h.box
  exact ⟨h.st.step hn ht, (ht.kept.block B hB h.bF).trans h.box, h.ref.kept ht.kept h.ap, fun hm => (ht.new B hm).elim h.bF (fun h1 => by omega), h.bG, fun k hk hm => (ht.new k hm).elim (h.ap k hk) (fun h1 => by have := h.ref.lt k hk; omega), h.newB⟩
theorem Pic.after (h : Pic w0 p B s t F G W c ws wr) (hb : Below wr.heap.size wr w') : Pic w0 p B s t F G W c ws w' :=
  ⟨h.st.after (h.st.net.after hb) hb, (hb.block B (lt_of_block h.box)).trans h.box, h.ref.after hb, h.bF, h.bG, h.ap, h.newB⟩
theorem Pic.put (h : Pic w0 p B s t F G W c ws wr) (hb : Below wr.heap.size wr w') (hr : RefNet w' G' (.agg #[.int .i64 (t'.n : Int), .int .i64 (t'.m : Int), .slice W' ws'.length c']) t' W' c' ws') (hG : ∀ k, k ∈ G' → k ∈ G ∨ wr.heap.size ≤ k)
    (hq : w''.heap[B]? = some (.cells #[.int .i64 (t'.n : Int), .int .i64 (t'.m : Int), .slice W' ws'.length c'] 29 (0, 0))) (hk : Kept [B] w' w'') : Pic w0 p B s t' F G' W' c' ws' w'' := by
  have hB := lt_of_block h.box
  have h1 := h.after hb
  have hBG : B ∉ G' := fun hm => (hG B hm).elim h.bG (fun h1 => by omega)
  refine ⟨⟨h1.st.net.kept hk (fun k hk2 => by simp; rintro rfl; exact h.bF hk2), h.st.new, h1.st.below.trans (hk.below h1.st.below.size (by simp; exact h.newB))⟩, hq, hr.kept hk (fun k hk2 => by simp; rintro rfl; exact hBG hk2), h.bF, hBG, fun k hk2 hm => (hG k hk2).elim (fun h2 => h.ap k h2 hm) (fun h2 => by have := h.st.net.lt hm; omega), h.newB⟩
theorem PicB.turn (h : PicB w0 p B b a s t F G W c ws wr) (hn : NetIs w' p F' s') (ht : Turns F F' wr w') : PicB w0 p B b a s' t F' G W c ws w' := by
  have hb := lt_of_block h.act
  exact ⟨h.pic.turn hn ht, (ht.kept.block b hb h.nF).trans h.act, fun hm => (ht.new b hm).elim h.nF (fun h1 => by omega), h.nB⟩
theorem PicB.after (h : PicB w0 p B b a s t F G W c ws wr) (hb : Below wr.heap.size wr w') : PicB w0 p B b a s t F G W c ws w' :=
  ⟨h.pic.after hb, (hb.block b (lt_of_block h.act)).trans h.act, h.nF, h.nB⟩
theorem PicB.put (h : PicB w0 p B b a s t F G W c ws wr) (hb : Below wr.heap.size wr w') (hr : RefNet w' G' (.agg #[.int .i64 (t'.n : Int), .int .i64 (t'.m : Int), .slice W' ws'.length c']) t' W' c' ws') (hG : ∀ k, k ∈ G' → k ∈ G ∨ wr.heap.size ≤ k)
    (hq : w''.heap[B]? = some (.cells #[.int .i64 (t'.n : Int), .int .i64 (t'.m : Int), .slice W' ws'.length c'] 29 (0, 0))) (hk : Kept [B] w' w'') : PicB w0 p B b a s t' F G' W' c' ws' w'' := by
  have h1 := h.after hb
  exact ⟨h.pic.put hb hr hG hq hk, (hk.block b (lt_of_block h1.act) (by simp; exact h.nB)).trans h1.act, h.nF, h.nB⟩
theorem PicB.drewN (h : PicB w0 p B b a s t F G W c ws wr) (n : Nat) : PicB w0 p B b a s t F G W c ws (wr.drewN n) := h.after (below_drewN (Below.refl _ _) n)
/-- the cells of the act -/
structure Six (w : World) (b : Nat) (a : Act8) : Prop where
  c0 : w.cell? ⟨b, 0, none⟩ = some (.int .i64 a.K)
  c1 : w.cell? ⟨b, 1, none⟩ = some (.int .i64 a.A)
  c2 : w.cell? ⟨b, 2, none⟩ = some (.int .i64 a.B)
  c3 : w.cell? ⟨b, 3, none⟩ = some (.int .i64 a.N)
  c4 : w.cell? ⟨b, 4, none⟩ = some (.int .i64 a.X)
  c5 : w.cell? ⟨b, 5, none⟩ = some (.string a.S)
theorem PicB.six (h : PicB w0 p B b a s t F G W c ws wr) : Six wr b a := by
  constructor <;> (rw [cell_of_block h.act]; rfl)
/-- the two stand for one net -/
structure Both (w0 : World) (p B : Nat) (n : Nat) (wr : World) : Prop where
  all : ∃ s F G W c ws, Pic w0 p B s s F G W c ws wr ∧ s.Small ∧ ws.length ≤ n
structure BothB (w0 : World) (p B b : Nat) (a : Act8) (s : NS) (n : Nat) (wr : World) : Prop where
  all : ∃ F G W c ws, PicB w0 p B b a s s F G W c ws wr ∧ ws.length ≤ n
theorem PicB.both {n : Nat} (h : PicB w0 p B b a s t F G W c ws wr) (e : t = s) (hl : ws.length ≤ n) : BothB w0 p B b a s n wr := by
  subst e; exact ⟨F, G, W, c, ws, h, hl⟩
end
end Go.Proofs.Ytndiclkfincbgaa.Net
