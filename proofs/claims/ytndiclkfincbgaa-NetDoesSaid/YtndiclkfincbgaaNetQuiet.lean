/- Layer 8: is nothing on its way in a net? Conditions: the net lies (NetIs). -/
import Derived.Test.YtndiclkfincbgaaNetOps
import Derived.Laws.IdiomRangeMap
namespace Go.Proofs.Ytndiclkfincbgaa.Net
set_option linter.unusedSimpArgs false
set_option linter.unusedVariables false
open Go.RowKit
def QuietSaid (w : World) (p : Nat) (F : List Nat) (s : NS) (e : Ending) (w' : World) : Prop := ∃ b : Bool, e = .returned (.bool b) ∧ (b = true ↔ s.quiet) ∧ NetIs w' p F s ∧ Below w.heap.size w w'
/-- a computation that leaves the tape alone -/
def Tapes {α : Type} (x : Sem α) : Prop := ∀ (P : Program) (w : World) (v : α) (w' : World), x.run P w = .ok v w' → w'.tape = w.tape
theorem tapes_pure {α : Type} (a : α) : Tapes (pure a : Sem α) := fun P w v w' h => by
  simp only [Sem.run_pure, Result.ok.injEq] at h; rw [← h.2]
theorem tapes_bind {α β : Type} {x : Sem α} {f : α → Sem β} (hx : Tapes x) (hf : ∀ a, Tapes (f a)) : Tapes (x >>= f) := fun P w v w' h => by
  rw [Sem.run_bind] at h
  cases hr : x.run P w with
  | ok a w1 => rw [hr] at h; exact (hf a P w1 v w' h).trans (hx P w a w1 hr)
  | halt e w1 => rw [hr] at h; simp [Result.andThen] at h
theorem tapes_stuck {α : Type} (m : String) : Tapes (stuck m : Sem α) := fun P w v w' h => by simp [stuck, Sem.run] at h
theorem tapes_halt {α : Type} (m : Halt) : Tapes (Sem.halt m : Sem α) := fun P w v w' h => by simp [Sem.run] at h
theorem tapes_getObj (r : Nat) : Tapes (getObj r) := fun P w v w' h => by
  unfold getObj at h
  simp only [Sem.run] at h
  split at h
  · cases h
  · simp only [Result.ok.injEq] at h; rw [← h.2]
  · cases h
theorem tapes_setObj (r : Nat) (o : Obj) : Tapes (setObj r o) := fun P w v w' h => by
  unfold setObj at h
  simp only [Sem.run] at h
  split at h
  · cases h
  · simp only [Result.ok.injEq] at h; rw [← h.2]
  · cases h
theorem tapes_choose (q : Question) : Tapes (choose q) := fun P w v w' h => by
  unfold choose at h
  simp only [Sem.run] at h
  split at h <;> (simp only [Result.ok.injEq] at h; rw [← h.2])
theorem tapes_next (r : Nat) (ty : TypeId) : Tapes (Instr.next (.pointer (some ⟨r, 0, none⟩)) false ty) := by
  unfold Instr.next
  refine tapes_bind (tapes_getObj r) fun o => ?_
  split
  · split
    · exact tapes_bind (tapes_setObj _ _) fun _ => tapes_pure _
    · exact tapes_pure _
  · exact tapes_pure _
  · refine tapes_bind (tapes_getObj _) fun o => ?_
    have body : ∀ (cs : Array (Option MapEntry)) (k : MapEntry → Sem Value) (hk : ∀ e, Tapes (k e)), Tapes (do
        let n ← choose (Question.mapNext cs.size)
        match cs[n]? with
        | some (some e) => k e
        | some none => pure (.tuple #[.bool false])
        | none => stuck "Next: no such candidate") := fun cs k hk => by
      refine tapes_bind (tapes_choose _) fun n => ?_
      split
      · exact hk _
      · exact tapes_pure _
      · exact tapes_stuck _
    split
    · dsimp only
      split
      · refine tapes_bind ?_ fun _ => ?_
        · unfold unsupported; exact tapes_halt _
        · exact body _ _ fun e => tapes_bind (tapes_setObj _ _) fun _ => tapes_pure _
      · exact body _ _ fun e => tapes_bind (tapes_setObj _ _) fun _ => tapes_pure _
    · exact tapes_stuck _
  · exact tapes_stuck _
structure QuietRel (w : World) (es : List Ent) (s : NS) (w1 : World) : Prop where
  heap : w1.heap = w.heap
  os : w1.os = w.os
  out : w1.output = w.output
  tape : w1.tape = w.tape
theorem QuietRel.below {w w1 : World} {es : List Ent} {s : NS} (h : QuietRel w es s w1) (o : Obj) : Below w.heap.size w (w1.alloc o) :=
  ⟨h.os, h.tape, h.out, by simp [h.heap], fun k hk => (Below.heap_alloc w1 o k (by rw [h.heap]; exact hk)).trans (by rw [h.heap])⟩
theorem QuietRel.net {w w1 : World} {es : List Ent} {s : NS} {p r : Nat} {room : Int} (h : QuietRel w es s w1) (hl : Lies w p r room s es) (o : Obj) : NetIs (w1.alloc o) p (foot p r es) s :=
  ⟨r, room, es, rfl, hl.keep fun k hk => (h.below o).block k (hl.lt hk)⟩
theorem born_one {ms : Array MapEntry} (hn : (ms.toList.map (·.born)).Nodup) {x e : MapEntry} (hx : x ∈ ms.toList) (he : e ∈ ms.toList) (h : x.born = e.born) : x = e := by
  have h1 := find_born x ms.toList hn hx
  have h2 := find_born e ms.toList hn he
  rw [h] at h1
  exact Option.some.inj (h1.symm.trans h2)
section
variable {w : World} {p : Nat} {F : List Nat} {s : NS}
set_option maxHeartbeats 2000000 in
theorem quiet_any (h : NetIs w p F s) :
    Calls Try.prog 20 #[.pointer (some ⟨p, 0, none⟩)] w (QuietSaid w p F s) := by
  obtain ⟨r, room, es, rfl, hl⟩ := h
  obtain ⟨ms, clk, hmp, hme, hstm⟩ := hl.mp
  have c2 := cell_of_block hl.st 2
  simp at c2
  have hpl := lt_of_block hl.st
  have hrl := lt_of_block hmp
  have hrg := run_range_map (P := Try.prog) w 54 67 63 r ms clk Try.underlying54 hmp
  have HL := Lib.hid hl
  have HMP := Lib.hid hmp
  have HME := Lib.hid hme
  have HST := Lib.hid hstm
  clear hl hmp hme hstm
  go_enter Try.func20, Try.ntmps20
  go_wp2_with fail
  go_loopw [4] (fun _s wr => ∃ (w1 : World) (seen : Array Nat), QuietRel w es s w1 ∧ wr = w1.alloc (.mapIter (some r) clk seen clk) ∧ ∀ x, x ∈ ms.toList → seen.contains x.born = true → ∃ e ∈ es, x.val = .pointer (some ⟨e.p, 0, none⟩) ∧ x.key = key e.a e.b ∧ s.f e.a e.b = []) (fun _ wr => (leftOf ms (wr.iterSeen w.heap.size)).size)
  case atStart => exact ⟨w, #[], ⟨rfl, rfl, rfl, rfl⟩, rfl, by simp⟩
  case round =>
    obtain ⟨w1, seen, hal, rfl, hemp⟩ := hrel
    have hsz : w1.heap.size = w.heap.size := by rw [hal.heap]
    have hb1 : w1.heap[r]? = some (.map ms clk) := by rw [hal.heap]; exact HMP.out
    have law := run_next_map (P := Try.prog) w1 0 r clk clk seen ms clk hb1 HST.out.1 (Nat.le_refl _)
    rw [hsz] at law
    have HAL := Lib.hid hal
    have HEMP := Lib.hid hemp
    clear hemp
    rcases law with ⟨h0, hrun⟩ | ⟨e, he, w2, hal2, hrun⟩
    · have hnx : ∀ ty, (Instr.next (.pointer (some ⟨w.heap.size, 0, none⟩)) false ty).run Try.prog (w1.alloc (.mapIter (some r) clk seen clk)) = _ := fun _ => hrun
      have HALL := Lib.hid (all_seen ms seen h0)
      clear hal hsz hb1 hrun
      go_wp2_with fail
      go_ret
      refine ⟨true, rfl, ⟨fun _ a b => ?_, fun _ => rfl⟩, HAL.out.net HL.out _, HAL.out.below _⟩
      by_cases hx : ∃ e ∈ es, e.a = a ∧ e.b = b
      · obtain ⟨e, he, rfl, rfl⟩ := hx
        have : e.kv ∈ ms.toList.map (fun e => (e.key, e.val)) := by rw [HME.out]; exact List.mem_map.2 ⟨e, he, rfl⟩
        obtain ⟨x, hx, hkv⟩ := List.mem_map.1 this
        simp only [Ent.kv, Prod.mk.injEq] at hkv
        obtain ⟨e', _, _, hk', hf'⟩ := HEMP.out x hx (HALL.out x hx)
        obtain ⟨k1, k2⟩ := key_inj (hkv.1.symm.trans hk')
        rw [k1, k2]; exact hf'
      · exact HL.out.rest a b fun e he hab => hx ⟨e, he, hab⟩
    · obtain ⟨hem, hnot⟩ := mem_left he
      have hkv0 : (e.key, e.val) ∈ es.map Ent.kv := by rw [← HME.out]; exact List.mem_map.2 ⟨e, hem, rfl⟩
      obtain ⟨f, hf, hkv⟩ := List.mem_map.1 hkv0
      simp only [Ent.kv, Prod.mk.injEq] at hkv
      have hval : e.val = .pointer (some ⟨f.p, 0, none⟩) := hkv.2.symm
      have htp : (w2.alloc (.mapIter (some r) clk (seen.push e.born) clk)).tape = (w1.alloc (.mapIter (some r) clk seen clk)).tape := tapes_next _ _ _ _ _ _ hrun
      have hal3 : QuietRel w es s w2 := ⟨hal2.1.trans hal.heap, hal2.2.1.trans hal.os, hal2.2.2.trans hal.out, htp.trans hal.tape⟩
      have hsz2 : w2.heap.size = w.heap.size := by rw [hal3.heap]
      have hb2 : w2.heap[r]? = some (.map ms clk) := by rw [hal3.heap]; exact HMP.out
      have hen := run_entry_map (P := Try.prog) w2 r clk seen ms clk e hb2 hem HST.out.2.1
      rw [hsz2, hval] at hen
      rw [hval] at hrun
      have hnx : ∀ ty, (Instr.next (.pointer (some ⟨w.heap.size, 0, none⟩)) false ty).run Try.prog (w1.alloc (.mapIter (some r) clk seen clk)) = _ := fun _ => hrun
      have hlies := HL.out.keep (w' := w2.alloc (.mapIter (some r) clk (seen.push e.born) clk)) (fun k hk => (Below.heap_alloc w2 _ k (by have := HL.out.lt hk; omega)).trans (by rw [hal3.heap]))
      have hhas := hlies.ring f hf
      have HH := Lib.hid hhas
      have HA3 := Lib.hid hal3
      have HVAL := Lib.hid hval
      have HKEY := Lib.hid hkv.1
      have HEM := Lib.hid (And.intro hem he)
      have HSZ := Lib.hid (And.intro hsz hsz2)
      have hstep : ∀ x, x ∈ ms.toList → (seen.push e.born).contains x.born = true → seen.contains x.born = true ∨ x = e := fun x hx hc => by
        simp only [Array.contains_push, Bool.or_eq_true, beq_iff_eq] at hc
        rcases hc with hc | hc
        · exact .inl hc
        · exact .inr (born_one HST.out.2.1 hx hem hc)
      have HSTEP := Lib.hid hstep
      clear hkv hkv0 hal hal2 hal3 hsz hsz2 hb1 hb2 htp hval hlies hhas hem hnot he hrun hstep
      go_wp2_with fail
      refine (RingS.len_has HH.out).mono ?_
      rintro e9 w9 ⟨rfl, rfl⟩
      obtain ⟨n, hn⟩ : ∃ n, (s.f f.a f.b).length = n := ⟨_, rfl⟩
      rw [hn]
      have HN := Lib.hid hn
      clear hn
      by_cases hz : n = 0
      · subst hz
        go_wp2_with fail
        go_roundw
        case rel =>
          refine ⟨w2, seen.push e.born, HA3.out, rfl, fun x hx hc => ?_⟩
          rcases HSTEP.out x hx hc with h1 | h1
          · exact HEMP.out x hx h1
          · subst h1; exact ⟨f, hf, HVAL.out, HKEY.out.symm, List.eq_nil_of_length_eq_zero HN.out⟩
        case measure =>
          rw [← HSZ.out.2, World.iterSeen_alloc, HSZ.out.2, ← HSZ.out.1, World.iterSeen_alloc]
          exact left_shrinks ms seen e HEM.out.2
      · have hd : decide (0 < n) = true := by simp; omega
        go_wp2_with fail
        go_ret
        refine ⟨false, rfl, ⟨(fun h => by cases h), fun hq => ?_⟩, HA3.out.net HL.out _, HA3.out.below _⟩
        have := hq f.a f.b
        rw [this] at HN
        exact absurd HN.out.symm hz
end
end Go.Proofs.Ytndiclkfincbgaa.Net
