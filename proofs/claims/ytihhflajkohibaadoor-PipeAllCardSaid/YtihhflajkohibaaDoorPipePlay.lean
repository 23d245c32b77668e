/- Layer 10: an act, as the statements play it. Conditions: all lies apart from each other (St10); sizes (Sz10). -/
import Derived.Test.YtihhflajkohibaaDoorPipeT
import Derived.Test.YtihhflajkohibaaDoorActs10
import Derived.Deep.CutBlock
namespace Go.Proofs.YtihhflajkohibaaDoor.Pipe
set_option linter.unusedSimpArgs false
set_option linter.unusedVariables false
set_option maxRecDepth 100000
open Go.RowKit
open Go.Proofs.YtihhflajkohibaaDoor
open Go.Proofs.YtihhflajkohibaaDoor.Link (LE Fr EndIs)
open Go.Proofs.YtihhflajkohibaaDoor.Net (NS NetIs)
structure M10 where
  p : Nat
  F : List Nat
  w : Bool → Arr
  t : Bool → Arr
def two (a b : Arr) (m n : Nat) : Array Value := #[sl a m, sl b n]
def M10.wc (M : M10) (t : T10) : Array Value := two (M.w false) (M.w true) (t.w false).length (t.w true).length
def M10.tc (M : M10) (t : T10) : Array Value := two (M.t false) (M.t true) (t.t false).length (t.t true).length
def zero2 : Array Value := #[.slice none 0 0, .slice none 0 0]
def things10 (B : Nat) (M : M10) (t : T10) : List Thing := [pipeT B M.p M.F t.s, txT (M.w false) (t.w false), txT (M.w true) (t.w true), txT (M.t false) (t.t false), txT (M.t true) (t.t true)]
structure St10 (B : Nat) (M : M10) (t : T10) (X : List Thing) (w : World) : Prop where
  lay : Sep B w (things10 B M t ++ X)
  env : Env B w
section
variable {B : Nat} {M : M10} {t : T10} {X : List Thing} {w w' : World}
theorem St10.pipe (h : St10 B M t X w) : PipeIs B w M.p M.F t.s := Sep.at (o := pipeT B M.p M.F t.s) h.lay 0 rfl
theorem St10.le (h : St10 B M t X w) : B ≤ w.heap.size := h.env.le
theorem t10_w (me : Bool) : (things10 B M t ++ X)[1 + me.toNat]? = some (txT (M.w me) (t.w me)) := by cases me <;> rfl
theorem t10_t (me : Bool) : (things10 B M t ++ X)[3 + me.toNat]? = some (txT (M.t me) (t.t me)) := by cases me <;> rfl
theorem St10.wv (h : St10 B M t X w) (me : Bool) : Vec w (M.w me).F 1 (M.w me).A (t.w me).length (M.w me).c ((t.w me).map .string) := Sep.at h.lay _ (t10_w me)
theorem St10.tv (h : St10 B M t X w) (me : Bool) : Vec w (M.t me).F 1 (M.t me).A (t.t me).length (M.t me).c ((t.t me).map .string) := Sep.at h.lay _ (t10_t me)
theorem St10.after (h : St10 B M t X w) (hb : Below w.heap.size w w') : St10 B M t X w' := ⟨h.lay.after hb, h.env.below (hb.mono h.le)⟩
theorem St10.setP (h : St10 B M t X w) {F' : List Nat} {s' : PS} (hP : PipeIs B w' M.p F' s') (ht : Turns M.F F' w w') : St10 B { M with F := F' } (t.pipe s') X w' ∧ Below B w w' := by
  have hb : Below B w w' := Sep.under (o := pipeT B M.p M.F t.s) h.lay h.le (.head _) ht
  exact ⟨⟨Sep.turn h.lay h.le 0 (o := pipeT B M.p M.F t.s) (o' := pipeT B M.p F' s') rfl hP (pipeT_local _ _ _ _) ht, h.env.below hb⟩, hb⟩
theorem St10.setW (h : St10 B M t X w) {me : Bool} {a : Arr} {l : List ByteArray} (hv : Vec w' a.F 1 a.A l.length a.c (l.map .string)) (ht : Turns (M.w me).F a.F w w') : St10 B { M with w := up M.w me a } { t with w := up t.w me l } X w' ∧ Below B w w' := by
  have hb : Below B w w' := Sep.under (o := txT (M.w me) (t.w me)) h.lay h.le (List.mem_of_getElem? (t10_w me)) ht
  have k := Sep.turn h.lay h.le _ (t10_w me) (o' := txT a l) hv (txT_local _ _) ht
  refine ⟨⟨?_, h.env.below hb⟩, hb⟩
  cases me <;> exact k
theorem St10.setT (h : St10 B M t X w) {me : Bool} {a : Arr} {l : List ByteArray} (hv : Vec w' a.F 1 a.A l.length a.c (l.map .string)) (ht : Turns (M.t me).F a.F w w') : St10 B { M with t := up M.t me a } { t with t := up t.t me l } X w' ∧ Below B w w' := by
  have hb : Below B w w' := Sep.under (o := txT (M.t me) (t.t me)) h.lay h.le (List.mem_of_getElem? (t10_t me)) ht
  have k := Sep.turn h.lay h.le _ (t10_t me) (o' := txT a l) hv (txT_local _ _) ht
  refine ⟨⟨?_, h.env.below hb⟩, hb⟩
  cases me <;> exact k
theorem St10.x (h : St10 B M t X w) (j : Nat) {o : Thing} (hj : X[j]? = some o) : o.P w := Sep.at h.lay (5 + j) (by
  rw [List.getElem?_append_right (by simp [things10])]; simpa [things10] using hj)
theorem St10.setX (h : St10 B M t X w) (j : Nat) {o o' : Thing} (hj : X[j]? = some o) (h' : o'.P w') (loc : o'.Local) (ht : Turns o.F o'.F w w') : St10 B M t (X.set j o') w' ∧ Below B w w' := by
  have hi : (things10 B M t ++ X)[5 + j]? = some o := by rw [List.getElem?_append_right (by simp [things10])]; simpa [things10] using hj
  have hb : Below B w w' := Sep.under h.lay h.le (List.mem_of_getElem? hi) ht
  have k := Sep.turn h.lay h.le (5 + j) hi h' loc ht
  have e : (things10 B M t ++ X).set (5 + j) o' = things10 B M t ++ X.set j o' := by
    rw [List.set_append_right _ _ (by simp [things10])]; simp [things10]
  rw [e] at k
  exact ⟨⟨k, h.env.below hb⟩, hb⟩
/-- a cell of a box is another one -/
theorem St10.box (h : St10 B M t X w) (j : Nat) {g : Nat} {cs : Array Value} {ty : TypeId} (hj : X[j]? = some (boxT g cs ty)) (i : Nat) (u : Value) : St10 B M t (X.set j (boxT g (cs.setIfInBounds i u) ty)) (w.setCell ⟨g, i, none⟩ u) ∧ Below B w (w.setCell ⟨g, i, none⟩ u) :=
  h.setX j hj (set_block (h.x j hj) i u) (boxT_local _ _ _) ⟨(Kept.refl [g] w).setCell (.inl (by simp)) u, fun _ h => .inl h⟩
/-- a whole box is another one -/
theorem St10.boxAll (h : St10 B M t X w) (j : Nat) {g : Nat} {cs cs' : Array Value} {ty : TypeId} (hj : X[j]? = some (boxT g cs ty)) (hg : w'.heap[g]? = some (.cells cs' ty (0, 0))) (hk : Kept [g] w w') : St10 B M t (X.set j (boxT g cs' ty)) w' ∧ Below B w w' :=
  h.setX j hj (o' := boxT g cs' ty) hg (boxT_local _ _ _) ⟨hk, fun _ h => .inl h⟩
/-- things that are new -/
theorem St10.more (h : St10 B M t X w) {o : Thing} (hb : Below w.heap.size w w') (ho : o.P w') (loc : o.Local) (hn : ∀ k, k ∈ o.F → w.heap.size ≤ k) : St10 B M t (o :: X) w' := by
  refine ⟨?_, h.env.below (hb.mono h.le)⟩
  have h1 := Sep.more h.lay h.le hb ho loc hn
  refine Sep.perm h1 ?_
  exact (List.perm_append_comm (l₁ := [o]) (l₂ := things10 B M t)).append_right X |>.trans (by rw [List.append_assoc]; exact List.Perm.refl _)
theorem St10.drop {Y : List Thing} (h : St10 B M t (Y ++ X) w) : St10 B M t X w := by
  refine ⟨?_, h.env⟩
  have h1 : Sep B w (Y ++ (things10 B M t ++ X)) := by
    refine Sep.perm h.lay ?_
    rw [← List.append_assoc, ← List.append_assoc]
    exact List.perm_append_comm.append_right X
  exact sep_right Y h1
/-- an act of the pipe -/
theorem St10.act (h : St10 B M t X w) {f : FuncId} {args : Array Value} {v : Value} {s' : PS} (k : Calls Tryd.prog f args w (ActP B w M.p M.F s' v)) : Calls Tryd.prog f args w fun e w' => e = .returned v ∧ ∃ F', St10 B { M with F := F' } (t.pipe s') X w' ∧ Below B w w' := by
  refine k.mono ?_
  rintro e w' ⟨rfl, F', h1, h2⟩
  exact ⟨rfl, F', h.setP h1 h2⟩
end
theorem wc_at (M : M10) (t : T10) (me : Bool) : (M.wc t)[me.toNat]? = some (sl (M.w me) (t.w me).length) := by cases me <;> rfl
theorem tc_at (M : M10) (t : T10) (me : Bool) : (M.tc t)[me.toNat]? = some (sl (M.t me) (t.t me).length) := by cases me <;> rfl
theorem wc_set (M : M10) (t : T10) (me : Bool) (a : Arr) (l : List ByteArray) : (M.wc t).setIfInBounds me.toNat (sl a l.length) = ({ M with w := up M.w me a } : M10).wc { t with w := up t.w me l } := by cases me <;> rfl
theorem tc_set (M : M10) (t : T10) (me : Bool) (a : Arr) (l : List ByteArray) : (M.tc t).setIfInBounds me.toNat (sl a l.length) = ({ M with t := up M.t me a } : M10).tc { t with t := up t.t me l } := by cases me <;> rfl
theorem two_one (M : M10) (t : T10) : (M.wc t).all (·.oneCell') = true ∧ (M.tc t).all (·.oneCell') = true := by simp [M10.wc, M10.tc, two, sl, Value.oneCell']
/-- sizes that an act wants -/
structure Sz10 (t : T10) : Prop where
  short : Short t.s.n
  g : ∀ b, (t.s.g b).length ≤ 100000
  w : ∀ b, (t.w b).length ≤ 100000
  t : ∀ b, (t.t b).length ≤ 100000
def boxes5 (b : Nat) (a : Act10) (W T r8 r9 : Array Value) : List Thing := [boxT (b + 1 + 1 + 1 + 1) r9 29, boxT (b + 1 + 1 + 1) r8 29, boxT (b + 1 + 1) T 29, boxT (b + 1) W 29, boxT b a.cells.toArray 33]
/-- an act on plain data -/
def T10.play (t : T10) (me : Bool) (a : Act10) : T10 :=
  if a.K = 0 then t.send me a.S else if a.K = 1 then t.go me else if a.K = 2 then t.pipe (t.s.tick me) else if a.K = 3 then t.pipe (t.s.come me a.N) else
  if a.K = 4 then t.pipe (t.s.lose me a.N) else if a.K = 5 then t.pipe (t.s.double me a.N) else t.pipe (t.s.flip me a.N a.X)
def PlaySaid (B p : Nat) (X : List Thing) (t : T10) (ok : Bool) (w : World) (e : Ending) (w' : World) : Prop := ∃ M' : M10, M'.p = p ∧ e = .returned (.tuple #[.agg (M'.wc t), .agg (M'.tc t), .bool ok]) ∧ St10 B M' t X w' ∧ Below B w w'
def PlayMid (B p : Nat) (X : List Thing) (t : T10) (a : Act10) (w wx : World) : Prop := ∃ M' : M10, M'.p = p ∧ St10 B M' t (boxes5 w.heap.size a (M'.wc t) (M'.tc t) zero2 zero2 ++ X) wx ∧ Below B w wx
theorem ret_two {P : Program} {w : World} {fn : Func} {R : Ending → World → Prop} {a : Act} {p q r : Tmp} {ty : TypeId} (h : fn.results = #[.cell p ty, .cell q ty, .tmp r]) (g g' : Nat) (t t' : TypeId) (cs cs' : Array Value) (d : TypeDesc) (u : Value)
    (hp : a.tmps.getD p undef = .pointer (some ⟨g, 0, none⟩)) (hg : w.heap[g]? = some (.cells cs t (0, 0))) (hq : a.tmps.getD q undef = .pointer (some ⟨g', 0, none⟩)) (hg' : w.heap[g']? = some (.cells cs' t' (0, 0))) (hr : a.tmps.getD r undef = u)
    (hu : P.underlying ty = some d) (hd : (match d with | .struct _ | .array _ _ => true | _ => false) = true) (hi : (P.info? ty).map (·.size) = some cs.size) (hi' : (P.info? ty).map (·.size) = some cs'.size) (hf : a.defers = []) (hR : R (.returned (.tuple #[.agg cs, .agg cs', u])) w) : bodyPost P fn R .ret a w := by
  refine bodyPost_ret (v := .tuple #[.agg cs, .agg cs', u]) ?_ hf hR
  have hp' : a.tmps[p]?.getD undef = .pointer (some ⟨g, 0, none⟩) := by simpa using hp
  have hq' : a.tmps[q]?.getD undef = .pointer (some ⟨g', 0, none⟩) := by simpa using hq
  have hr' : a.tmps[r]?.getD undef = u := by simpa using hr
  simp [results, h, hp', hq', hr', asAddr, run_loadVar_row w g t ty cs (0, 0) d hg hu hd hi, run_loadVar_row w g' t' ty cs' (0, 0) d hg' hu hd hi']
section
variable {B : Nat} {M : M10} {t : T10} {X : List Thing} {w : World}
theorem St10.boxes (h : St10 B M t X w) (a : Act10) (W T : Array Value) : St10 B M t (boxes5 w.heap.size a W T zero2 zero2 ++ X) (((((w.alloc (.cells a.cells.toArray 33)).alloc (.cells W 29)).alloc (.cells T 29)).alloc (.cells zero2 29)).alloc (.cells zero2 29)) ∧
    Below w.heap.size w (((((w.alloc (.cells a.cells.toArray 33)).alloc (.cells W 29)).alloc (.cells T 29)).alloc (.cells zero2 29)).alloc (.cells zero2 29)) := by
  have one : ∀ {w : World} {X : List Thing} (_ : St10 B M t X w) (cs : Array Value) (ty : TypeId) (k : Nat), w.heap.size = k → St10 B M t (boxT k cs ty :: X) (w.alloc (.cells cs ty)) := fun {w} {X} h cs ty k hk =>
    h.more (o := boxT k cs ty) ((Below.refl _ _).alloc (Nat.le_refl _) _) (heap_new_at w _ k hk) (boxT_local _ _ _) (fun j hj => by simp [boxT] at hj; omega)
  refine ⟨one (one (one (one (one h _ _ _ rfl) _ _ _ (by simp)) _ _ _ (by simp)) _ _ _ (by simp)) _ _ _ (by simp), ?_⟩
  exact (((((Below.refl _ _).alloc (Nat.le_refl _) _).alloc (by simp) _).alloc (by simp; omega) _).alloc (by simp; omega) _).alloc (by simp; omega) _
set_option maxRecDepth 100000 in
set_option maxHeartbeats 8000000 in
theorem play_not (h : St10 B M t X w) (a : Act10) (hs : isSide a.Side = false) :
    Calls Tryd.prog 11 #[.pointer (some ⟨M.p, 0, none⟩), .agg a.cells.toArray, .agg (M.wc t), .agg (M.tc t)] w (PlaySaid B M.p X t true w) := by
  obtain ⟨W, hW⟩ : ∃ W, M.wc t = W := ⟨_, rfl⟩
  obtain ⟨T, hT⟩ : ∃ T, M.tc t = T := ⟨_, rfl⟩
  obtain ⟨w5, hw5⟩ : ∃ w5, ((((w.alloc (.cells a.cells.toArray 33)).alloc (.cells W 29)).alloc (.cells T 29)).alloc (.cells zero2 29)).alloc (.cells zero2 29) = w5 := ⟨_, rfl⟩
  obtain ⟨hl, hb⟩ := h.boxes a W T
  rw [hw5] at hl hb
  unfold zero2 at hw5
  have HW5 := Lib.hid hw5
  have HL := Lib.hid hl
  have HB := Lib.hid (hb.mono h.le)
  have HWT := Lib.hid (And.intro hW hT)
  have hn : ¬ (a.Side = 0 ∨ a.Side = 1) := fun h => by rw [isSide_iff.2 h] at hs; cases hs
  have d0 : (a.Side != 0) = true := by simp; exact fun h => hn (.inl h)
  have d1 : (a.Side != 1) = true := by simp; exact fun h => hn (.inr h)
  rw [hW, hT]
  have x1 := cell_of_block (hl.x 4 rfl) 1
  simp [Act10.cells] at x1
  clear hl hb hw5 hW hT h hs hn
  go_enter Tryd.func11, Tryd.ntmps11
  go_upto_region 1 with fail
  rw [HW5.out]
  go_wp2_with fail
  clear d0 d1 x1
  have HLR := HL
  have HBR := HB
  refine' wp_flow [only 0 (.agg W), only 1 (.agg T), (fun _ v => St10 B M t (boxes5 w.heap.size a W T W zero2 ++ X) v ∧ Below B w v), (fun _ v => St10 B M t (boxes5 w.heap.size a W T W T ++ X) v ∧ Below B w v), only 4 _, (fun _ v => St10 B M t (boxes5 w.heap.size a W T zero2 zero2 ++ X) v ∧ Below B w v)] (fun v => v.heap[w.heap.size + 1]? = some (.cells W 29 (0, 0)) ∧ v.heap[w.heap.size + 1 + 1]? = some (.cells T 29 (0, 0))) [[], [], [0, 5], [1, 2], []] [[], [], [5], [2], []] [[], [], [], [], []] [[5], [2, 5], [], [], [2, 3, 5]] [2, 3, 5] [0, 0, 1, 7, 0] _ (fun us => ?hfr) (by kernel_rfl) (by kernel_rfl) (by kernel_rfl) ⟨only_still _, only_still _, trivial, trivial, only_still _, trivial, trivial⟩ (⟨HLR.out.x 3 rfl, HLR.out.x 2 rfl⟩) (by simp) (⟨HLR.out.after (below_drewN (Below.refl _ _) 1), below_drewN HBR.out 1⟩) ?hst ?hla
  case hfr => (simp only [List.cons_append, List.nil_append, putAll, Act.put, List.setIfInBounds_toArray, List.set_cons_zero, List.set_cons_succ, Nat.reduceAdd]; rfl)
  case hst =>
    refine ⟨?_, ?_, ?_, ?_, ?_, trivial⟩
    · intro us v hR hn ho K hK
      clear ho
      skip
      have hcs : (Tryd.prog.info? 29).map (·.size) = some W.size := by rw [← HWT.out.1]; kernel_rfl
      rw [if_pos (by rfl)]
      refine wp_load_row 29 _ (by rfl) (w.heap.size + 1) (by rfl) 29 W (0, 0) _ hR.1 Tryd.underlying29 rfl hcs ?_
      refine hK _ _ _ (by simp only [Act.put, List.setIfInBounds_toArray, List.set_cons_zero, List.set_cons_succ, Nat.reduceAdd] <;> rfl) ?_ hR ⟨fun h => h, trivial⟩
      exact only_mk (v := v) rfl
    · intro us v hR hn ho K hK
      clear ho
      skip
      have hcs : (Tryd.prog.info? 29).map (·.size) = some T.size := by rw [← HWT.out.2]; kernel_rfl
      rw [if_pos (by rfl)]
      refine wp_load_row 29 _ (by rfl) (w.heap.size + 1 + 1) (by rfl) 29 T (0, 0) _ hR.2 Tryd.underlying29 rfl hcs ?_
      refine hK _ _ _ (by simp only [Act.put, List.setIfInBounds_toArray, List.set_cons_zero, List.set_cons_succ, Nat.reduceAdd] <;> rfl) ?_ hR ⟨fun h => h, fun h => h, trivial⟩
      exact only_mk (v := v) rfl
    · intro us v hR hn ho K hK
      obtain ⟨n0, ns, -⟩ := hn
      have n0 : us 0 = _ := n0
      clear ho
      skip
      obtain ⟨l1, l2⟩ := ns
      rw [if_pos (by rfl)]
      refine wp_store_all 29 (.tmp 8) (.tmp 32) (by rfl) (w.heap.size + 1 + 1 + 1) zero2 W 29 (by rfl) n0 (l1.x 1 rfl) (by rw [← HWT.out.1]; rfl) (by rw [← HWT.out.1]; kernel_rfl) (by rw [← HWT.out.1]; exact (two_one M t).1) ?_
      intro v' hq hk
      obtain ⟨k1, k2⟩ := l1.boxAll 1 rfl hq hk
      exact hK undef _ _ (by simp only [Act.put, List.setIfInBounds_toArray, List.set_cons_zero, List.set_cons_succ, Nat.reduceAdd, n0, n0] <;> rfl) ⟨k1, l2.trans k2⟩ ⟨k1.x 3 rfl, k1.x 2 rfl⟩ trivial
    · intro us v hR hn ho K hK
      obtain ⟨n1, n2, -⟩ := hn
      have n1 : us 1 = _ := n1
      clear ho
      skip
      obtain ⟨l1, l2⟩ := n2
      rw [if_pos (by rfl)]
      refine wp_store_all 29 (.tmp 9) (.tmp 33) (by rfl) (w.heap.size + 1 + 1 + 1 + 1) zero2 T 29 (by rfl) n1 (l1.x 0 rfl) (by rw [← HWT.out.2]; rfl) (by rw [← HWT.out.2]; kernel_rfl) (by rw [← HWT.out.2]; exact (two_one M t).2) ?_
      intro v' hq hk
      obtain ⟨k1, k2⟩ := l1.boxAll 0 rfl hq hk
      exact hK undef _ _ (by simp only [Act.put, List.setIfInBounds_toArray, List.set_cons_zero, List.set_cons_succ, Nat.reduceAdd, n1, n1] <;> rfl) ⟨k1, l2.trans k2⟩ ⟨k1.x 3 rfl, k1.x 2 rfl⟩ trivial
    · intro us v hR hn ho K hK
      clear ho
      skip
      rw [if_pos (by rfl)]
      go_simp
      refine hK _ _ _ (by simp only [Act.put, List.setIfInBounds_toArray, List.set_cons_zero, List.set_cons_succ, Nat.reduceAdd] <;> rfl) ?_ hR ⟨fun h => h, fun h => h, fun h => h, trivial⟩
      refine only_mk (v := v) ?_
      with_reducible rfl
  case hla =>
    intro us v hR hl
    obtain ⟨n0, n1, n3, n4, -⟩ := need_last hl [0, 1, 3, 4] (by kernel_rfl)
    have n0 : us 0 = _ := n0
    have n1 : us 1 = _ := n1
    have n4 : us 4 = _ := n4
    skip
    simp only [n0, n1, n4]
    clear hl n0 n1 n4
    obtain ⟨l3, b3⟩ := n3
    have HL3 := Lib.hid l3
    have HB3 := Lib.hid b3
    clear l3 b3 hR
    go_wp2_with fail
    refine ret_two Tryd.results11 (w.heap.size + 1 + 1 + 1) (w.heap.size + 1 + 1 + 1 + 1) 29 29 W T _ (.bool true) rfl (HL3.out.x 1 rfl) rfl (HL3.out.x 0 rfl) rfl Tryd.underlying29 rfl (by rw [← HWT.out.1]; kernel_rfl) (by rw [← HWT.out.2]; kernel_rfl) rfl ?_
    have hfin : PlaySaid B M.p X t true w (.returned (.tuple #[.agg W, .agg T, .bool true])) v := by
      refine ⟨M, rfl, by first | (rw [← HWT.out.1, ← HWT.out.2]; done) | (rw [← HWT.out.1, ← HWT.out.2]; rfl), HL3.out.drop (Y := boxes5 w.heap.size a W T W T), HB3.out⟩
    exact hfin
end
end Go.Proofs.YtihhflajkohibaaDoor.Pipe
