/- Layer 9: what stands between the parts of a round of LinkAll. Conditions: those of each lemma. -/

import Derived.Test.YtblaanohidldpaaLinkRound
namespace Go.Proofs.Ytblaanohidldpaa.Link
set_option linter.unusedSimpArgs false
set_option linter.unusedVariables false
open Go.RowKit
/-- two ends in the first block, all else apart -/
def AllSt (w : World) (t : T2) (wr : World) : Prop := ∃ M : Mem2, Lay w.heap.size M t [boxT w.heap.size (M.cells t) 60] wr ∧ Below w.heap.size w wr
/-- the same, and frames besides -/
def AllFr (w : World) (t : T2) (G : List Nat) (A : Option Addr) (c : Nat) (fs : List Fr) (wr : World) : Prop := ∃ M : Mem2, Lay w.heap.size M t [boxT w.heap.size (M.cells t) 60, vecT G 5 A fs.length c (fs.flatMap Fr.cells)] wr ∧ Below w.heap.size w wr
theorem Lay.more {B : Nat} {M : Mem2} {t : T2} {X : List Thing} {w : World} (h : Lay B M t X w) {o : Thing} (ho : o.P w) (loc : o.Local) (hB : ∀ k, k ∈ o.F → B ≤ k) (ap : ∀ n, n ∈ things M t ++ X → ∀ k, k ∈ o.F → k ∉ n.F) : Lay B M t (X ++ [o]) w := by
  have h1 : Sep B w (o :: (things M t ++ X)) := .cons _ _ ho loc hB ap h
  refine Sep.perm h1 ?_
  rw [← List.append_assoc]
  exact (List.perm_append_singleton _ _).symm
theorem Lay.less {B : Nat} {M : Mem2} {t : T2} {w : World} {a b : Thing} (h : Lay B M t [a, b] w) : Lay B M t [a] w := by
  have h1 : Sep B w ([b] ++ (things M t ++ [a])) := by
    refine Sep.perm h ?_
    rw [show things M t ++ [a, b] = (things M t ++ [a]) ++ [b] from by simp]
    exact List.perm_append_comm
  exact h1.tail
theorem AllSt.setE {w wr w' : World} {M : Mem2} {t : T2} {me : Bool} {F' : List Nat} {z : LE} (h : Lay w.heap.size M t [boxT w.heap.size (M.cells t) 60] wr) (hb : Below w.heap.size w wr) (he : EndIs w' (M.p me) F' z) (ht : Turns (M.F me) F' wr w') : AllSt w { t with e := upB t.e me z } w' :=
  ⟨{ M with F := upB M.F me F' }, h.setE hb.size he ht, hb.trans (h.underE hb.size ht)⟩
/-- what an end lets out lies apart from all else -/
theorem AllFr.start {w wr w' : World} {M : Mem2} {t : T2} {me : Bool} {G : List Nat} {A : Option Addr} {c : Nat} {fs : List Fr} {z : LE} (h : Lay w.heap.size M t [boxT w.heap.size (M.cells t) 60] wr) (hb : Below w.heap.size w wr) (he : EndIs w' (M.p me) (M.F me) z) (ht : Turns (M.F me) (M.F me) wr w')
    (hv : Vec w' G 5 A fs.length c (fs.flatMap Fr.cells)) (hG : ∀ k, k ∈ G → wr.heap.size ≤ k) : AllFr w { t with e := upB t.e me z } G A c fs w' := by
  have hl := h.setE hb.size he ht
  refine ⟨{ M with F := upB M.F me (M.F me) }, Lay.more hl (o := vecT G 5 A fs.length c (fs.flatMap Fr.cells)) hv (vecT_local _ _ _ _ _ _) (fun k hk => Nat.le_trans hb.size (hG k hk)) ?_, hb.trans (h.underE hb.size ht)⟩
  intro n hn k hk hm
  have hk' := hG k hk
  have hlt : k < wr.heap.size := by
    rw [upB_id] at hn
    have hF : n.F ∈ (things M t ++ [boxT w.heap.size (M.cells t) 60]).map (·.F) := by
      have := List.mem_map_of_mem (f := fun x : Thing => x.F) hn
      cases me <;> exact this
    obtain ⟨n', hn', e⟩ := List.mem_map.1 hF
    exact Sep.lt h hn' (by rw [e]; exact hm)
  omega
namespace T2
/-- the parts of a round -/
def part (t : T2) : Nat → T2
  | 0 => t.both 100
  | 1 => (t.both 100).over false
  | _ => t.rnd
theorem part_zero (t : T2) : t.part 0 = t.both 100 := rfl
theorem part_two (t : T2) : t.part 2 = t.rnd := rfl
theorem part_step (t : T2) (me : Bool) : t.part (me.toNat + 1) = (t.part me.toNat).over me := by cases me <;> rfl
/-- so many of the frames came -/
def sofar (t : T2) (me : Bool) (fs : List Fr) (k : Nat) : T2 := (t.leave me).takes (!me) (fs.take k)
theorem sofar_step (t : T2) (me : Bool) (fs : List Fr) {k : Nat} {f : Fr} (hf : fs[k]? = some f) : t.sofar me fs (k + 1) = (t.sofar me fs k).take (!me) f := by
  unfold T2.sofar
  rw [List.take_add_one, hf, ← takes_snoc]; rfl
theorem sofar_all (t : T2) (me : Bool) : t.sofar me (t.e me).goes (t.e me).goes.length = t.over me := by
  unfold T2.sofar over; rw [List.take_length]
theorem sofar_g (t : T2) (me : Bool) (fs : List Fr) (n : Nat) (h : ∀ b, (t.g b).length ≤ n) : ∀ k, k ≤ fs.length → ∀ b, ((t.sofar me fs k).g b).length ≤ n + k := by
  intro k
  induction k with
  | zero => intro _ b; exact h b
  | succ k ih =>
    intro hk
    rw [sofar_step t me fs (List.getElem?_eq_getElem (show k < fs.length by omega))]
    exact take_len _ _ _ _ (ih (by omega))
end T2
/-- sizes at the parts of a round -/
theorem over_g (t : T2) (me : Bool) (hok : (t.e me).Ok) (n : Nat) (h : ∀ b, (t.g b).length ≤ n) : ∀ b, ((t.over me).g b).length ≤ n + 1000 := by
  intro b
  have := T2.sofar_g t me (t.e me).goes n h _ (Nat.le_refl _) b
  rw [T2.sofar_all] at this
  have := goes_le hok
  omega
theorem both_g (t : T2) (k : Nat) : (t.both k).g = t.g := by rw [T2.both_is]
end Go.Proofs.Ytblaanohidldpaa.Link
