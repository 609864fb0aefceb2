/-
  The laws on maps at the operations, for the walk.
-/
import Derived.Test.YtnjgkgbgmjoceaaMaps1
import Derived.Deep.RegionHeld3
import Derived.StillTailTactics
import Derived.OwnWalk
import Derived.Maps.AppendAt
import Derived.ArgAppend
import Derived.Deep.AppendLies
import Derived.Deep.OwnRows
set_option linter.unusedSimpArgs false
set_option linter.unusedVariables false
namespace Go.Proofs.Ytnjgkgbgmjoceaa
open Go.RowKit Go.ChangeMaps

/-- A store into a map: nothing else has turned. -/
structure MapStep (w w' : World) (b : Nat) : Prop where
  grown : w.grownBy w' (some b)
  size : w'.heap.size = w.heap.size
  cell : ∀ a, w'.cell? a = w.cell? a
  frozen : ∀ a, w'.frozen? a = w.frozen? a
  drawn : w'.drawn = w.drawn
  block : ∀ i, i ≠ b → w'.heap[i]? = w.heap[i]?
theorem mapStep_of {κ : Type} {enc : κ → Value} {w : World} {b clk : Nat} {l : List (Ent κ)} (hb : w.heap[b]? = some (mapObj enc l clk)) (l' : List (Ent κ)) (clk' : Nat) : MapStep w (setBlock w b (mapObj enc l' clk')) b :=
  ⟨sb_grown _ _ _, sb_size _, sb_cell hb rfl rfl, sb_frozen hb rfl rfl, rfl, fun _ h => sb_other _ h⟩
theorem mapStep_new {κ : Type} {enc : κ → Value} {w : World} {b clk : Nat} {l : List (Ent κ)} (hb : w.heap[b]? = some (mapObj enc l clk)) (l' : List (Ent κ)) (clk' : Nat) : (setBlock w b (mapObj enc l' clk')).heap[b]? = some (mapObj enc l' clk') :=
  sb_same (Array.getElem?_eq_some_iff.1 hb).1 _

section
variable {P : Program} {ops : Array Oper} {rest : List Oper} {o : Oper} {a : Act} {Q : Exit → Act → World → Prop} {K : Act → World → Prop} {E : Prop} {w w' : World} {v : Value}

/-- An operation whose run is known. -/
theorem wpList_run (hg : o.guard = none) (h : (execOp a.eval o).run P w = .ok (.value v) w') (hK : wpList P ops Q rest (a.put o.dst v) w') : wpList P ops Q (o :: rest) a w := by
  refine wpList_plain hg fun K' hK' => ?_
  unfold Oper.wp
  rw [h]
  exact hK' _ _ hK
theorem wpList_run_skip (hg : o.guard = none) (h : (execOp a.eval o).run P w = .ok .skip w') (hK : wpList P ops Q rest (a.put o.dst undef) w') : wpList P ops Q (o :: rest) a w := by
  refine wpList_plain hg fun K' hK' => ?_
  unfold Oper.wp
  rw [h]
  exact hK' _ _ hK
/-- The same, as a step of a region that draws its order. -/
theorem step_run (hg : o.guard = none) (h : (execOp a.eval o).run P w = .ok (.value v) w') (hK : K (a.put o.dst v) w') : if Region.wanted o (yielded ops a.tmps) = true then Oper.wp P o a w K Q else E := by
  rw [if_pos (by simp [Region.wanted, hg])]
  unfold Oper.wp
  rw [h]
  exact hK
theorem step_run_skip (hg : o.guard = none) (h : (execOp a.eval o).run P w = .ok .skip w') (hK : K (a.put o.dst undef) w') : if Region.wanted o (yielded ops a.tmps) = true then Oper.wp P o a w K Q else E := by
  rw [if_pos (by simp [Region.wanted, hg])]
  unfold Oper.wp
  rw [h]
  exact hK

variable {kt et : TypeId} {κ : Type} [DecidableEq κ] {enc : κ → Value} {ok : κ → Prop} {clk b : Nat} {l : List (Ent κ)} {t : TypeId}

theorem exec_look (KO : KeysOk P kt enc ok) (c : Bool) (m x : Operand) (hop : o.op = Op.lookup t m x c) (ht : P.underlying t = some (.map kt et)) {z : Value} (hz : ∀ w, (zeroValue et).run P w = .ok z w)
    (hm : a.eval m = .map (some b)) (k : κ) (hx : a.eval x = enc k) (hb : w.heap[b]? = some (mapObj enc l clk)) :
    (execOp a.eval o).run P w = .ok (.value (if c then .tuple #[(atE k l).getD z, .bool (atE k l).isSome] else (atE k l).getD z)) w := by
  have h := run_lookup_E KO ht (hz w) hb k c
  simp [execOp, hop, hm, hx, h, Result.andThen]
theorem exec_upd (KO : KeysOk P kt enc ok) (m x y : Operand) (hop : o.op = Op.mapUpdate t m x y) (ht : P.underlying t = some (.map kt et))
    (hm : a.eval m = .map (some b)) (k : κ) (hx : a.eval x = enc k) (hy : a.eval y = v) (hb : w.heap[b]? = some (mapObj enc l clk)) :
    (execOp a.eval o).run P w = .ok .skip (setBlock w b (mapObj enc (putE k v clk l) (clkE k clk l))) := by
  have h := run_update_E KO ht hb k v
  simp [execOp, hop, hm, hx, hy, h, Result.andThen]
theorem exec_ins (KO : KeysOk P kt enc ok) (m x y : Operand) (hop : o.op = Op.insert t m x y) (ht : P.underlying t = some (.map kt et))
    (hm : a.eval m = .map (some b)) (k : κ) (hx : a.eval x = enc k) (hy : a.eval y = v) (hb : w.heap[b]? = some (mapObj enc l clk)) :
    (execOp a.eval o).run P w = .ok .skip (setBlock w b (mapObj enc (putE k v clk l) (clkE k clk l))) := by
  have h := run_update_E KO ht hb k v
  simp [execOp, hop, hm, hx, hy, h, Result.andThen]
theorem exec_entry (KO : KeysOk P kt enc ok) (m x : Operand) (hop : o.op = Op.mapEntry t m x) (ht : P.underlying t = some (.map kt et)) {z : Value} (hz : ∀ w, (zeroValue et).run P w = .ok z w)
    (hm : a.eval m = .map (some b)) (k : κ) (hx : a.eval x = enc k) (hb : w.heap[b]? = some (mapObj enc l clk)) :
    (execOp a.eval o).run P w = .ok (.value (.tuple #[(atE k l).getD z, goInt (stampE k clk l)])) (setBlock w b (mapObj enc (putE k ((atE k l).getD z) clk l) (clkE k clk l))) := by
  have h := run_entry_E KO ht hz hb k
  simp [execOp, hop, hm, hx, h, Result.andThen]
theorem exec_entryStore (m s y : Operand) (hop : o.op = Op.entryStore t m s y)
    (hm : a.eval m = .map (some b)) (k : κ) (c0 : Nat) (hs : a.eval s = goInt (stampE k c0 l)) (hy : a.eval y = v) (hb : w.heap[b]? = some (mapObj enc l clk)) (hst : Stamped l clk) (hk : (atE k l).isSome = true) :
    (execOp a.eval o).run P w = .ok .skip (setBlock w b (mapObj enc (putE k v clk l) clk)) := by
  have h := run_entryStore_E (P := P) (t := t) hb hst k hk v c0
  simp [execOp, hop, hm, hs, hy, h, Result.andThen]

/-- The same where the walk's simp has laid the operation open. -/
theorem up_run {v : Value} {s : Sem Value} (h : s.run P w = .ok v w') (hK : K (a.put o.dst v) w') : Oper.upon P o a K Q ((s.run P w).andThen fun a w' => .ok (.value a) w') := by
  rw [h]
  exact hK
theorem up_run_unit {s : Sem Unit} (h : s.run P w = .ok () w') (hK : K (a.put o.dst undef) w') : Oper.upon P o a K Q ((s.run P w).andThen fun _ w' => .ok .skip w') := by
  rw [h]
  exact hK
theorem up_entry (KO : KeysOk P kt enc ok) (ht : P.underlying t = some (.map kt et)) {z : Value} (hz : ∀ w, (zeroValue et).run P w = .ok z w) (k : κ) {kv : Value} (hkv : kv = enc k) (hb : w.heap[b]? = some (mapObj enc l clk))
    (hK : ∀ w', MapStep w w' b → w'.heap[b]? = some (mapObj enc (putE k ((atE k l).getD z) clk l) (clkE k clk l)) → K (a.put o.dst (.tuple #[(atE k l).getD z, goInt (stampE k clk l)])) w') :
    Oper.upon P o a K Q (((Instr.mapEntry t (.map (some b)) kv).run P w).andThen fun a w' => .ok (.value a) w') := by
  subst hkv
  exact up_run (run_entry_E KO ht hz hb k) (hK _ (mapStep_of hb _ _) (mapStep_new hb _ _))
theorem up_entryStore (k : κ) (c0 : Nat) {sv : Value} (hsv : sv = goInt (stampE k c0 l)) (v : Value) (hb : w.heap[b]? = some (mapObj enc l clk)) (hst : Stamped l clk) (hk : (atE k l).isSome = true)
    (hK : ∀ w', MapStep w w' b → w'.heap[b]? = some (mapObj enc (putE k v clk l) clk) → K (a.put o.dst undef) w') :
    Oper.upon P o a K Q (((Instr.entryStore t (.map (some b)) sv v).run P w).andThen fun _ w' => .ok .skip w') := by
  subst hsv
  exact up_run_unit (run_entryStore_E hb hst k hk v c0) (hK _ (mapStep_of hb _ _) (mapStep_new hb _ _))
theorem up_upd (KO : KeysOk P kt enc ok) (ht : P.underlying t = some (.map kt et)) (k : κ) {kv : Value} (hkv : kv = enc k) (v : Value) (hb : w.heap[b]? = some (mapObj enc l clk))
    (hK : ∀ w', MapStep w w' b → w'.heap[b]? = some (mapObj enc (putE k v clk l) (clkE k clk l)) → K (a.put o.dst undef) w') :
    Oper.upon P o a K Q (((Instr.mapUpdate t (.map (some b)) kv v).run P w).andThen fun _ w' => .ok .skip w') := by
  subst hkv
  exact up_run_unit (run_update_E KO ht hb k v) (hK _ (mapStep_of hb _ _) (mapStep_new hb _ _))
theorem up_look (KO : KeysOk P kt enc ok) (ht : P.underlying t = some (.map kt et)) {z : Value} (hz : ∀ w, (zeroValue et).run P w = .ok z w) (c : Bool) (k : κ) {kv : Value} (hkv : kv = enc k) (hb : w.heap[b]? = some (mapObj enc l clk))
    (hK : K (a.put o.dst (if c then .tuple #[(atE k l).getD z, .bool (atE k l).isSome] else (atE k l).getD z)) w) :
    Oper.upon P o a K Q (((Instr.lookup t (.map (some b)) kv c).run P w).andThen fun a w' => .ok (.value a) w') := by
  subst hkv
  exact up_run (run_lookup_E KO ht (hz w) hb k c) hK
theorem up_append {W : World} (base : Nat) (e : TypeId) (ty : TypeId) (z : Value) (size bytes : Nat)
    (ht : P.underlying t = some (.slice e)) (hinfo : (P.info? e).map (fun i => (i.zero, i.size, i.bytes)) = some (some z, size, bytes)) (hz : z.cells.size = size) (hs0 : 0 < size)
    (v : Value) (n : Nat) (xs ys : List Value) (g : Nat) (hgb : W.heap[g]? = some (.cells ys.toArray e (0, 0))) (hys : ys.length = size) (h1 : ∀ u ∈ ys, u.oneCell' = true)
    (HO : W.ownsRow base e size v n xs) (hbase : base ≤ W.heap.size) (hn : n + 1 ≤ 9223372036854775807) (hl : (n + 1) * bytes ≤ 140737488355328)
    (h : ∀ v1 w1, w1.ownsRow base e size v1 (n + 1) (xs ++ ys) → W.grownBy w1 v.ownBlock → (v1.ownBlock = v.ownBlock ∨ v1.ownBlock = some W.heap.size) → v1.ownBlock ≠ none → K (a.put o.dst v1) w1) :
    Oper.upon P o a K Q (((Builtin.append_ #[t, t] ty #[v, .slice (some ⟨g, 0, none⟩) 1 1]).run P W).andThen fun a w' => .ok (.value a) w') := by
  obtain ⟨i0, hi, hzz⟩ := Option.map_eq_some_iff.1 hinfo
  simp only [Prod.mk.injEq] at hzz
  obtain ⟨hz0, hz1, hz2⟩ := hzz
  obtain ⟨v1, w1, hr, hown, hgr, hnil, hat⟩ := run_append_own_at (P := P) W base t ty e i0 z size bytes ht hi hz0 hz1 hz2 hz hs0 v n xs HO ⟨g, 0, none⟩ 1 1 ys (by rw [hys]; simp)
    (by simpa using World.news_of_block (cs := ys.toArray) (t := e) (fr := (0, 0)) hgb) h1 (by simp only [maxLen]; omega) hl hbase
  refine up_run hr (h v1 w1 hown hgr hat ?_)
  rcases hown.2 with ⟨e1, e2⟩ | ⟨gg, cap, cur, e1, _⟩
  · omega
  · rw [e1]; simp [Value.ownBlock]

/-- The runs themselves, laid ahead of a region that draws its order. -/
theorem pre_entry (KO : KeysOk P kt enc ok) (ht : P.underlying t = some (.map kt et)) {z : Value} (hz : ∀ w, (zeroValue et).run P w = .ok z w) (k : κ) (hb : w.heap[b]? = some (mapObj enc l clk)) :
    ∃ w', (Instr.mapEntry t (.map (some b)) (enc k)).run P w = .ok (.tuple #[(atE k l).getD z, goInt (stampE k clk l)]) w' ∧ MapStep w w' b ∧ w'.heap[b]? = some (mapObj enc (putE k ((atE k l).getD z) clk l) (clkE k clk l)) :=
  ⟨_, run_entry_E KO ht hz hb k, mapStep_of hb _ _, mapStep_new hb _ _⟩
theorem pre_entryStore (k : κ) (c0 : Nat) (v : Value) (hb : w.heap[b]? = some (mapObj enc l clk)) (hst : Stamped l clk) (hk : (atE k l).isSome = true) :
    ∃ w', (Instr.entryStore t (.map (some b)) (goInt (stampE k c0 l)) v).run P w = .ok () w' ∧ MapStep w w' b ∧ w'.heap[b]? = some (mapObj enc (putE k v clk l) clk) :=
  ⟨_, run_entryStore_E hb hst k hk v c0, mapStep_of hb _ _, mapStep_new hb _ _⟩
theorem pre_upd (KO : KeysOk P kt enc ok) (ht : P.underlying t = some (.map kt et)) (k : κ) (v : Value) (hb : w.heap[b]? = some (mapObj enc l clk)) :
    ∃ w', (Instr.mapUpdate t (.map (some b)) (enc k) v).run P w = .ok () w' ∧ MapStep w w' b ∧ w'.heap[b]? = some (mapObj enc (putE k v clk l) (clkE k clk l)) :=
  ⟨_, run_update_E KO ht hb k v, mapStep_of hb _ _, mapStep_new hb _ _⟩
theorem pre_append {W : World} (base : Nat) (e : TypeId) (ty : TypeId) (z : Value) (size bytes : Nat)
    (ht : P.underlying t = some (.slice e)) (hinfo : (P.info? e).map (fun i => (i.zero, i.size, i.bytes)) = some (some z, size, bytes)) (hz : z.cells.size = size) (hs0 : 0 < size)
    (v : Value) (n : Nat) (xs ys : List Value) (g : Nat) (hgb : W.heap[g]? = some (.cells ys.toArray e (0, 0))) (hys : ys.length = size) (h1 : ∀ u ∈ ys, u.oneCell' = true)
    (HO : W.ownsRow base e size v n xs) (hbase : base ≤ W.heap.size) (hn : n + 1 ≤ 9223372036854775807) (hl : (n + 1) * bytes ≤ 140737488355328) :
    ∃ v1 w1, (Builtin.append_ #[t, t] ty #[v, .slice (some ⟨g, 0, none⟩) 1 1]).run P W = .ok v1 w1 ∧ w1.ownsRow base e size v1 (n + 1) (xs ++ ys) ∧ W.grownBy w1 v.ownBlock ∧ (v1.ownBlock = v.ownBlock ∨ v1.ownBlock = some W.heap.size) ∧ v1.ownBlock ≠ none := by
  obtain ⟨i0, hi, hzz⟩ := Option.map_eq_some_iff.1 hinfo
  simp only [Prod.mk.injEq] at hzz
  obtain ⟨hz0, hz1, hz2⟩ := hzz
  obtain ⟨v1, w1, hr, hown, hgr, hnil, hat⟩ := run_append_own_at (P := P) W base t ty e i0 z size bytes ht hi hz0 hz1 hz2 hz hs0 v n xs HO ⟨g, 0, none⟩ 1 1 ys (by rw [hys]; simp)
    (by simpa using World.news_of_block (cs := ys.toArray) (t := e) (fr := (0, 0)) hgb) h1 (by simp only [maxLen]; omega) hl hbase
  refine ⟨v1, w1, hr, hown, hgr, hat, ?_⟩
  rcases hown.2 with ⟨e1, e2⟩ | ⟨gg, cap, cur, e1, _⟩
  · omega
  · rw [e1]; simp [Value.ownBlock]
/-- The builtin append as a step, its run known. -/
theorem step_append_run {v1 : Value} {w1 : World} (hg : o.guard = none) (s x : Operand) (ho : o.op = .call { callee := .builtin .append, args := #[s, x], argTypes := #[t, t] }) (v y : Value) (hs : a.eval s = v) (hx : a.eval x = y)
    (hr : (Builtin.append_ #[t, t] o.type #[v, y]).run P w = .ok v1 w1) (hK : K (a.put o.dst v1) w1) : if Region.wanted o (yielded ops a.tmps) = true then Oper.wp P o a w K Q else E := by
  refine step_run hg (v := v1) (w' := w1) ?_ hK
  unfold execOp
  simp only [ho, resolve, invoke, builtin, Sem.run_bind, Sem.run_pure, Result.andThen_ok, List.map_toArray, List.map_cons, List.map_nil, hs, hx, hr]

theorem wpList_upd (KO : KeysOk P kt enc ok) (hg : o.guard = none) (m x y : Operand) (hop : o.op = Op.mapUpdate t m x y) (ht : P.underlying t = some (.map kt et))
    (hm : a.eval m = .map (some b)) (k : κ) (hx : a.eval x = enc k) (v : Value) (hy : a.eval y = v) (hb : w.heap[b]? = some (mapObj enc l clk))
    (hK : ∀ w', MapStep w w' b → w'.heap[b]? = some (mapObj enc (putE k v clk l) (clkE k clk l)) → wpList P ops Q rest (a.put o.dst undef) w') : wpList P ops Q (o :: rest) a w :=
  wpList_run_skip hg (exec_upd KO m x y hop ht hm k hx hy hb) (hK _ (mapStep_of hb _ _) (mapStep_new hb _ _))
theorem wpList_ins (KO : KeysOk P kt enc ok) (hg : o.guard = none) (m x y : Operand) (hop : o.op = Op.insert t m x y) (ht : P.underlying t = some (.map kt et))
    (hm : a.eval m = .map (some b)) (k : κ) (hx : a.eval x = enc k) (v : Value) (hy : a.eval y = v) (hb : w.heap[b]? = some (mapObj enc l clk))
    (hK : ∀ w', MapStep w w' b → w'.heap[b]? = some (mapObj enc (putE k v clk l) (clkE k clk l)) → wpList P ops Q rest (a.put o.dst undef) w') : wpList P ops Q (o :: rest) a w :=
  wpList_run_skip hg (exec_ins KO m x y hop ht hm k hx hy hb) (hK _ (mapStep_of hb _ _) (mapStep_new hb _ _))
theorem wpList_look (KO : KeysOk P kt enc ok) (hg : o.guard = none) (c : Bool) (m x : Operand) (hop : o.op = Op.lookup t m x c) (ht : P.underlying t = some (.map kt et)) {z : Value} (hz : ∀ w, (zeroValue et).run P w = .ok z w)
    (hm : a.eval m = .map (some b)) (k : κ) (hx : a.eval x = enc k) (hb : w.heap[b]? = some (mapObj enc l clk))
    (hK : wpList P ops Q rest (a.put o.dst (if c then .tuple #[(atE k l).getD z, .bool (atE k l).isSome] else (atE k l).getD z)) w) : wpList P ops Q (o :: rest) a w :=
  wpList_run hg (exec_look KO c m x hop ht hz hm k hx hb) hK
theorem step_entry (KO : KeysOk P kt enc ok) (hg : o.guard = none) (m x : Operand) (hop : o.op = Op.mapEntry t m x) (ht : P.underlying t = some (.map kt et)) {z : Value} (hz : ∀ w, (zeroValue et).run P w = .ok z w)
    (hm : a.eval m = .map (some b)) (k : κ) (hx : a.eval x = enc k) (hb : w.heap[b]? = some (mapObj enc l clk))
    (hK : ∀ w', MapStep w w' b → w'.heap[b]? = some (mapObj enc (putE k ((atE k l).getD z) clk l) (clkE k clk l)) → K (a.put o.dst (.tuple #[(atE k l).getD z, goInt (stampE k clk l)])) w') :
    if Region.wanted o (yielded ops a.tmps) = true then Oper.wp P o a w K Q else E :=
  step_run hg (exec_entry KO m x hop ht hz hm k hx hb) (hK _ (mapStep_of hb _ _) (mapStep_new hb _ _))
theorem step_entryStore (hg : o.guard = none) (m s y : Operand) (hop : o.op = Op.entryStore t m s y)
    (hm : a.eval m = .map (some b)) (k : κ) (c0 : Nat) (hs : a.eval s = goInt (stampE k c0 l)) (v : Value) (hy : a.eval y = v) (hb : w.heap[b]? = some (mapObj enc l clk)) (hst : Stamped l clk) (hk : (atE k l).isSome = true)
    (hK : ∀ w', MapStep w w' b → w'.heap[b]? = some (mapObj enc (putE k v clk l) clk) → K (a.put o.dst undef) w') :
    if Region.wanted o (yielded ops a.tmps) = true then Oper.wp P o a w K Q else E :=
  step_run_skip hg (exec_entryStore m s y hop hm k c0 hs hy hb hst hk) (hK _ (mapStep_of hb _ _) (mapStep_new hb _ _))
/-- An append of one element to a row of one's own, as a step: behind the variadic's box. -/
theorem step_append {W : World} (hg : o.guard = none) (base : Nat) (s x : Operand) (e : TypeId) (z : Value) (size bytes : Nat)
    (ho : o.op = .call { callee := .builtin .append, args := #[s, x], argTypes := #[t, t] })
    (ht : P.underlying t = some (.slice e)) (hinfo : (P.info? e).map (fun i => (i.zero, i.size, i.bytes)) = some (some z, size, bytes)) (hz : z.cells.size = size) (hs0 : 0 < size)
    (v : Value) (n : Nat) (xs ys : List Value) (hs : a.eval s = v) (g : Nat) (hx : a.eval x = .slice (some ⟨g, 0, none⟩) 1 1) (hgb : W.heap[g]? = some (.cells ys.toArray e (0, 0))) (hys : ys.length = size) (h1 : ∀ u ∈ ys, u.oneCell' = true)
    (HO : W.ownsRow base e size v n xs) (hbase : base ≤ W.heap.size) (hn : n + 1 ≤ 9223372036854775807) (hl : (n + 1) * bytes ≤ 140737488355328)
    (h : ∀ v1 w1, w1.ownsRow base e size v1 (n + 1) (xs ++ ys) → W.grownBy w1 v.ownBlock → (v1.ownBlock = v.ownBlock ∨ v1.ownBlock = some W.heap.size) → v1.ownBlock ≠ none → K (a.put o.dst v1) w1) :
    if Region.wanted o (yielded ops a.tmps) = true then Oper.wp P o a W K Q else E := by
  obtain ⟨i0, hi, hzz⟩ := Option.map_eq_some_iff.1 hinfo
  simp only [Prod.mk.injEq] at hzz
  obtain ⟨hz0, hz1, hz2⟩ := hzz
  obtain ⟨v1, w1, hr, hown, hgr, hnil, hat⟩ := run_append_own_at (P := P) W base t o.type e i0 z size bytes ht hi hz0 hz1 hz2 hz hs0 v n xs HO ⟨g, 0, none⟩ 1 1 ys (by rw [hys]; simp)
    (by simpa using World.news_of_block (cs := ys.toArray) (t := e) (fr := (0, 0)) hgb) h1 (by simp only [maxLen]; omega) hl hbase
  refine step_run hg (v := v1) (w' := w1) ?_ (h v1 w1 hown hgr hat ?_)
  · unfold execOp
    simp only [ho, resolve, invoke, builtin, Sem.run_bind, Sem.run_pure, Result.andThen_ok, List.map_toArray, List.map_cons, List.map_nil, hs, hx, hr]
  · rcases hown.2 with ⟨e1, e2⟩ | ⟨gg, cap, cur, e1, _⟩
    · omega
    · rw [e1]; simp [Value.ownBlock]
theorem wpList_append {W : World} (hg : o.guard = none) (base : Nat) (s x : Operand) (e : TypeId) (z : Value) (size bytes : Nat)
    (ho : o.op = .call { callee := .builtin .append, args := #[s, x], argTypes := #[t, t] })
    (ht : P.underlying t = some (.slice e)) (hinfo : (P.info? e).map (fun i => (i.zero, i.size, i.bytes)) = some (some z, size, bytes)) (hz : z.cells.size = size) (hs0 : 0 < size)
    (v : Value) (n : Nat) (xs ys : List Value) (hs : a.eval s = v) (g : Nat) (hx : a.eval x = .slice (some ⟨g, 0, none⟩) 1 1) (hgb : W.heap[g]? = some (.cells ys.toArray e (0, 0))) (hys : ys.length = size) (h1 : ∀ u ∈ ys, u.oneCell' = true)
    (HO : W.ownsRow base e size v n xs) (hbase : base ≤ W.heap.size) (hn : n + 1 ≤ 9223372036854775807) (hl : (n + 1) * bytes ≤ 140737488355328)
    (h : ∀ gg cap w1, w1.ownsRow base e size (.slice (some ⟨gg, 0, none⟩) (n + 1) cap) (n + 1) (xs ++ ys) → W.grownBy w1 v.ownBlock → (v.ownBlock = some gg ∨ gg = W.heap.size) → wpList P ops Q rest (a.put o.dst (.slice (some ⟨gg, 0, none⟩) (n + 1) cap)) w1) :
    wpList P ops Q (o :: rest) a W := by
  refine wpList_plain hg fun K' hK' => ?_
  have := step_append (P := P) (ops := ops) (K := K') (Q := Q) (E := True) hg base s x e z size bytes ho ht hinfo hz hs0 v n xs ys hs g hx hgb hys h1 HO hbase hn hl (fun v1 w1 k1 k2 k3 k4 => by
    obtain ⟨gg, cap, rfl, _, _⟩ := k1.form (by omega)
    refine hK' _ _ (h gg cap w1 k1 k2 ?_)
    rcases k3 with k3 | k3
    · exact .inl k3.symm
    · exact .inr (by simpa [Value.ownBlock] using k3))
  rw [if_pos (by simp [Region.wanted, hg])] at this
  exact this
end

/-- A block over what makes memory. -/
theorem hk_alloc {W : World} {b : Nat} {x : Obj} (h : W.heap[b]? = some x) (o : Obj) : (W.alloc o).heap[b]? = some x := (Below.heap_alloc W o b (Array.getElem?_eq_some_iff.1 h).1).trans h
theorem hk_set {W : World} {b : Nat} {x : Obj} (h : W.heap[b]? = some x) {a : Addr} (ha : b ≠ a.block) (v : Value) : (W.setCell a v).heap[b]? = some x := (Below.heap_setCell W a v b ha).trans h
theorem hk_up {W w1 : World} (hu : Up W w1) {b : Nat} {x : Obj} (h : W.heap[b]? = some x) : w1.heap[b]? = some x := (hu.block b (Array.getElem?_eq_some_iff.1 h).1).trans h
theorem hk_lt {W : World} {b : Nat} {x : Obj} (h : W.heap[b]? = some x) : b < W.heap.size := (Array.getElem?_eq_some_iff.1 h).1
theorem hk_cell {w : World} {b : Nat} {c : Array Value} {t : TypeId} {f : Nat × Nat} (h : w.heap[b]? = some (.cells c t f)) (i : Nat) : w.cell? ⟨b, i, none⟩ = c[i]? := cell_of_row w b i c t f h
theorem blk_set1 {w : World} {g : Nat} {t : TypeId} {cs : Array Value} {f : Nat × Nat} (h : w.heap[g]? = some (.cells cs t f)) (i : Nat) (u : Value) : (w.setCell ⟨g, i, none⟩ u).heap[g]? = some (.cells (cs.setIfInBounds i u) t f) := by
  simp only [World.setCell, Array.getElem?_modify]
  rw [if_pos trivial, h]
  rfl
theorem World.grownBy_set (w : World) (b i : Nat) (u : Value) : w.grownBy (w.setCell ⟨b, i, none⟩ u) (some b) :=
  ⟨rfl, rfl, rfl, by simp [World.setCell], fun k _ hk => Below.heap_setCell w _ u k (fun e => hk (by rw [e]))⟩
theorem hk_free {w : World} {b : Nat} {c : Array Value} {t : TypeId} (h : w.heap[b]? = some (.cells c t (0, 0))) (i : Nat) : w.frozen? ⟨b, i, none⟩ = false := by simp [World.frozen?, h]
end Go.Proofs.Ytnjgkgbgmjoceaa
