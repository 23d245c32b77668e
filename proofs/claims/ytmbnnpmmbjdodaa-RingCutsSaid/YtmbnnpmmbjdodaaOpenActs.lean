/- Arguments opened: a slice of structs of one-cell fields that came in, as the list of its cells. Conditions: the reading of the argument. -/
import Derived.Test.YtmbnnpmmbjdodaaOpen
import Derived.Deep.Slices
import Derived.Deep.Fields
import Derived.ChangeSame
import Derived.ChangeArms
namespace Go.Proofs.Ytmbnnpmmbjdodaa
set_option linter.unusedSimpArgs false
set_option linter.unusedVariables false
open Go.ChangeShapes Go.WideShapes Go.ChangeAt Go.RowKit Go.Deep

section
variable {H : Type} {enc : TypeId × Value → H} {P : Program} {w : World}
/-- each element's cells, with what each field's type says of them -/
theorem sl_fields {t e : TypeId} {fs : Array Field} {A : Option Addr} {n c : Nat} {d : DataW H} {ps : List MemPlace} (ht : P.underlying t = some (.slice e)) (he : P.underlying e = some (.struct fs))
    (hone : oneCellFields P fs = true) (hC : P.cellsOf e = fs.size) (hfs : 0 < fs.size)
    (h : DataW.Trod enc P w 0 (fun _ => true) true t (.slice A n c) d ps) (hlt : ∀ x ∈ ps, x.block < w.heap.size) :
    ∃ cs : List Value, Sl w 0 w.heap.size fs.size A n cs ∧ n ≤ maxLen ∧
      ∀ i, i < n → ∀ (j : Nat) (f : Field), fs[j]? = some f → ∃ (v : Value) (y : DataW H × List MemPlace) (m : Nat), cs[i * fs.size + j]? = some v ∧ DataW.trod enc P w 0 (fun _ => true) true m f.type [v] = some y := by
  obtain ⟨fuel, hf⟩ := h
  rcases open_slice ht hf with ⟨hcs, _⟩ | ⟨a, len, cap, m, n', D, Pl, hcs, hb, hl, hm, hmm, hx, hi⟩
  · simp [Value.cells] at hcs
    obtain ⟨rfl, rfl, rfl⟩ := hcs
    exact ⟨[], Sl.nil _ _ _ _ _, by simp, fun i hi => absurd hi (by omega)⟩
  · simp [Value.cells] at hcs
    obtain ⟨rfl, rfl, rfl⟩ := hcs
    simp only [if_true] at hmm
    subst hmm
    rw [hC] at hx
    have hat : ∀ i, i < n → ∀ (j : Nat) (f : Field), fs[j]? = some f → ∃ (v : Value) (y : DataW H × List MemPlace) (m : Nat), w.cell? (a.add (i * fs.size + j)) = some v ∧ DataW.trod enc P w 0 (fun _ => true) true m f.type [v] = some y := by
      intro i hin j f hj
      obtain ⟨cs', hc, ht'⟩ := hi i (by omega)
      rw [hC] at hc
      obtain ⟨ys, n2, _, _, _, hyl, hff⟩ := DataW.trod_struct he ht'
      obtain ⟨_, hcl, hcat⟩ := World.cells?_some hc
      obtain ⟨ho, hk⟩ := hone_of hone j f hj
      have hjl : j < fs.size := (Array.getElem?_eq_some_iff.1 hj).1
      have hcell := hcat j hjl
      have hv : cs'[j]? = some (cs'[j]'(by omega)) := List.getElem?_eq_getElem (by omega)
      have h1 := hff j f hj
      rw [ho, hk] at h1
      have hone' : (cs'.drop j).take 1 = [cs'[j]'(by omega)] := by
        rw [List.drop_eq_getElem_cons (by omega)]
        rfl
      rw [hone'] at h1
      have hys : ys[j]? = some (ys[j]'(by omega)) := List.getElem?_eq_getElem (by omega)
      refine ⟨_, _, _, ?_, h1.trans hys⟩
      rw [← Go.Deep.add_add, hcell, hv]
    have hall : ∀ x, x < n * fs.size → ∃ v, w.cell? (a.add x) = some v := by
      intro x hxx
      have hj : x % fs.size < fs.size := Nat.mod_lt _ hfs
      have hi2 : x / fs.size < n := Nat.div_lt_of_lt_mul (by rw [Nat.mul_comm]; exact hxx)
      obtain ⟨v, _, _, hv, _⟩ := hat _ hi2 _ _ (Array.getElem?_eq_getElem hj)
      refine ⟨v, ?_⟩
      rw [show x / fs.size * fs.size + x % fs.size = x from Nat.div_add_mod' x fs.size] at hv
      exact hv
    refine ⟨(List.range (n * fs.size)).map fun x => (w.cell? (a.add x)).getD (.bool false), ⟨by simp, fun hn => ?_⟩, by omega, fun i hin j f hj => ?_⟩
    · have hpos : 0 < n * fs.size := Nat.mul_pos hn hfs
      obtain ⟨v0, hv0⟩ := hall 0 hpos
      obtain ⟨b, off, spot⟩ := a
      have hspot : spot = none := by simpa [Addr.add] using World.cell?_spot hv0
      subst hspot
      refine ⟨b, off, rfl, Nat.zero_le _, ?_, fun j u hu => ?_⟩
      · simp only [Prod.mk.injEq] at hx
        have hbig : 0 < m * fs.size := Nat.lt_of_lt_of_le hpos (Nat.mul_le_mul_right _ hl)
        refine row_lt (a := ⟨b, off, none⟩) (n := m * fs.size) hbig hlt (fun y hy => ?_)
        rw [hx.2]; exact List.mem_append_left _ hy
      · have hj : j < n * fs.size := by
          rcases Nat.lt_or_ge j (n * fs.size) with h | h
          · exact h
          · rw [List.getElem?_eq_none (by simpa using h)] at hu; cases hu
        obtain ⟨v, hv⟩ := hall j hj
        rw [List.getElem?_eq_getElem (by simpa using hj)] at hu
        simp [hv] at hu
        rw [← Go.WideShapes.add_plain, hv, hu]
    · obtain ⟨v, y, m, hv, hy⟩ := hat i hin j f hj
      have hjl : j < fs.size := (Array.getElem?_eq_some_iff.1 hj).1
      have hlt2 : i * fs.size + j < n * fs.size := by
        have := Nat.mul_le_mul_right fs.size (show i + 1 ≤ n from hin)
        rw [Nat.add_mul] at this; omega
      refine ⟨v, y, m, ?_, hy⟩
      rw [List.getElem?_eq_getElem (by simpa using hlt2)]
      simp [hv]
/-- whole numbers, and how much the slice may grow -/
theorem sl_ints_cap {t e : TypeId} {k : IntKind} {A : Option Addr} {n c : Nat} {d : DataW H} {ps : List MemPlace} (ht : P.underlying t = some (.slice e)) (he : P.underlying e = some (.int k)) (hc : P.cellsOf e = 1)
    (h : DataW.Trod enc P w 0 (fun _ => true) true t (.slice A n c) d ps) (hlt : ∀ x ∈ ps, x.block < w.heap.size) :
    ∃ zs : List Int, n = zs.length ∧ Sl w 0 w.heap.size 1 A zs.length (zs.map (Value.int k)) ∧ zs.length ≤ c ∧ c ≤ maxLen := by
  have hcap : n ≤ c ∧ c ≤ maxLen := by
    obtain ⟨fuel, hf⟩ := h
    rcases open_ints ht he hc hf with ⟨hcs, _⟩ | ⟨x, l, cap, zs, hcs, _, hl, hm, _⟩
    · simp [Value.cells] at hcs
      obtain ⟨rfl, rfl, rfl⟩ := hcs
      exact ⟨Nat.le_refl _, Nat.zero_le _⟩
    · simp [Value.cells] at hcs
      obtain ⟨rfl, rfl, rfl⟩ := hcs
      exact ⟨hl, hm⟩
  obtain ⟨zs, rfl, hs, _⟩ := sl_ints ht he hc h hlt
  exact ⟨zs, rfl, hs, hcap⟩
/-- a slice of structs of two whole numbers -/
theorem sl_acts {t e : TypeId} {f0 f1 : Field} {A : Option Addr} {n c : Nat} {d : DataW H} {ps : List MemPlace} (ht : P.underlying t = some (.slice e)) (he : P.underlying e = some (.struct #[f0, f1]))
    (h0 : P.underlying f0.type = some (.int .i64)) (h1 : P.underlying f1.type = some (.int .i64)) (hone : oneCellFields P #[f0, f1] = true) (hC : P.cellsOf e = 2)
    (h : DataW.Trod enc P w 0 (fun _ => true) true t (.slice A n c) d ps) (hlt : ∀ x ∈ ps, x.block < w.heap.size) :
    ∃ l : List (Int × Int), n = l.length ∧ Sl w 0 w.heap.size 2 A l.length (l.flatMap fun a => [Value.int .i64 a.1, Value.int .i64 a.2]) ∧ l.length ≤ maxLen := by
  obtain ⟨cs, hs, hn, hf⟩ := sl_fields ht he hone hC (by simp) h hlt
  have hs : Sl w 0 w.heap.size 2 A n cs := hs
  have hch : ∀ i, ∃ a : Int × Int, i < n → cs[i * 2]? = some (.int .i64 a.1) ∧ cs[i * 2 + 1]? = some (.int .i64 a.2) := by
    intro i
    by_cases hi : i < n
    · obtain ⟨v, y, m, hv, hy⟩ := hf i hi 0 f0 rfl
      obtain ⟨v', y', m', hv', hy'⟩ := hf i hi 1 f1 rfl
      obtain ⟨K, hK, _⟩ := DataW.trod_int h0 hy
      obtain ⟨X, hX, _⟩ := DataW.trod_int h1 hy'
      simp at hK hX
      subst hK; subst hX
      exact ⟨(K, X), fun _ => ⟨hv, hv'⟩⟩
    · exact ⟨(0, 0), fun h => absurd h hi⟩
  obtain ⟨g, hg⟩ := Classical.axiomOfChoice hch
  have hlen : cs.length = n * 2 := hs.1
  have hmain : ∀ k, k ≤ n → (List.range k).flatMap (fun i => [Value.int .i64 (g i).1, Value.int .i64 (g i).2]) = cs.take (k * 2) := by
    intro k
    induction k with
    | zero => intro _; simp
    | succ k ih =>
      intro hk
      obtain ⟨e1, e2⟩ := hg k hk
      rw [List.range_succ, List.flatMap_append, ih (by omega), show (k + 1) * 2 = k * 2 + 1 + 1 from by omega, List.take_add_one, List.take_add_one, e1, e2]
      simp
  have hfin : ((List.range n).map g).flatMap (fun a => [Value.int .i64 a.1, Value.int .i64 a.2]) = cs := by
    rw [List.flatMap_map, hmain n (Nat.le_refl _), List.take_of_length_le (by omega)]
  refine ⟨(List.range n).map g, by simp, ?_, by simpa using hn⟩
  rw [hfin, List.length_map, List.length_range]
  exact hs
end
end Go.Proofs.Ytmbnnpmmbjdodaa
