/-
  The loop of view.Of over what is near.
-/
import Derived.Test.YtnjgkgbgmjoceaaOfSort
set_option linter.unusedSimpArgs false
set_option linter.unusedVariables false
namespace Go.Proofs.Ytnjgkgbgmjoceaa
open Go.RowKit Go.ChangeMaps Go.Sort
attribute [local go_sem] Oper.semAt_some

theorem wpListIn_append {F : Fence} {nn : Nat} {P : Program} {ops : Array Oper} {rest : List Oper} {o : Oper} {a : Act} {Q : Exit → Act → World → Prop} {t : TypeId} {W : World} (hg : o.guard = none) (base : Nat) (s x : Operand) (e : TypeId) (z : Value) (size bytes : Nat)
    (ho : o.op = .call { callee := .builtin .append, args := #[s, x], argTypes := #[t, t] })
    (ht : P.underlying t = some (.slice e)) (hinfo : (P.info? e).map (fun i => (i.zero, i.size, i.bytes)) = some (some z, size, bytes)) (hz : z.cells.size = size) (hs0 : 0 < size)
    (v : Value) (n : Nat) (xs ys : List Value) (hs : a.eval s = v) (g : Nat) (hx : a.eval x = .slice (some ⟨g, 0, none⟩) 1 1) (hgb : W.heap[g]? = some (.cells ys.toArray e (0, 0))) (hys : ys.length = size) (h1 : ∀ u ∈ ys, u.oneCell' = true)
    (HO : W.ownsRow base e size v n xs) (hbase : base ≤ W.heap.size) (hn : n + 1 ≤ 9223372036854775807) (hl : (n + 1) * bytes ≤ 140737488355328)
    (h : ∀ gg cap w1, w1.ownsRow base e size (.slice (some ⟨gg, 0, none⟩) (n + 1) cap) (n + 1) (xs ++ ys) → W.grownBy w1 v.ownBlock → wpListIn F nn P ops Q rest (a.put o.dst (.slice (some ⟨gg, 0, none⟩) (n + 1) cap)) w1) :
    wpListIn F nn P ops Q (o :: rest) a W := by
  obtain ⟨i0, hi, hzz⟩ := Option.map_eq_some_iff.1 hinfo
  simp only [Prod.mk.injEq] at hzz
  obtain ⟨hz0, hz1, hz2⟩ := hzz
  refine wpListIn_append_own W hg s x t ho base e i0 z size bytes ht hi hz0 hz1 hz2 hz hs0 v n xs hs HO ⟨g, 0, none⟩ 1 1 ys hx (by rw [hys]; simp) (by simpa using World.news_of_block (cs := ys.toArray) (t := e) (fr := (0, 0)) hgb) h1 (by simp only [maxLen]; omega) hl hbase ?_
  intro v1 w1 k1 k2 _
  obtain ⟨gg, cap, rfl, _, _⟩ := k1.form (by omega)
  exact h gg cap w1 k1 k2

/-- The frame by a name. -/
theorem wp_named {P : Program} {c : Code} {Q : Exit → Act → World → Prop} {a : Act} {w : World} (h : ∀ T, T = a.tmps → a.defers = [] → c.wp P Q { tmps := T, defers := [] } w) (hd : a.defers = []) : c.wp P Q a w := by
  have := h a.tmps rfl hd
  rw [← hd] at this
  exact this

/-- The view's own cells. -/
def viewCells (tick : Int) (own : Car) (v : Value) : Array Value := #[.int .u64 tick, .int .i64 own.player, .string own.name, .int .i64 own.x, .int .i64 own.y, .int .i64 own.sx, .int .i64 own.sy, .int .i64 own.heading, .int .i64 own.health, .int .i64 own.energy, .int .i64 own.ammo, .int .i64 own.cool, .int .i64 own.wait, .int .i64 own.spawns, .int .i64 own.score, v]
theorem own_from {B base : Nat} {e : TypeId} {k : Nat} : OwnFrom B (fun (s : Value × Nat × List Value) W => W.ownsRow base e k s.1 s.2.1 s.2.2) := by
  intro s W W' row hs hg hr
  refine hs.kept hg ?_
  rcases hs.2 with ⟨e1, _⟩ | ⟨g, cap, cur, e1, _, hgb, _⟩
  · exact .inl (by rw [e1]; rfl)
  · refine .inr fun e2 => ?_
    rw [e1] at e2
    obtain ⟨_, o, ho, hc⟩ := hr g e2.symm
    rw [hgb] at ho
    cases ho
    cases hc
theorem cells_from {B b : Nat} {cs : Array Value} {t : TypeId} {fr : Nat × Nat} {W W' : World} {row : Option Nat} (h : W.heap[b]? = some (.cells cs t fr)) (hg : W.grownBy W' row) (hr : ∀ r, row = some r → B ≤ r ∧ ∃ o : Obj, W.heap[r]? = some o ∧ o.isCells = false) : W'.heap[b]? = some (.cells cs t fr) :=
  (grownBy_keeps_cells hg (fun r e => (hr r e).2) h rfl).trans h
/-- What holds between two rounds. -/
def LoopI (w : World) (vb n₀ : Nat) (tick : Int) (own : Car) (rc : Array Value) (pre : List Seen) (W : World) : Prop :=
  (∃ v, W.heap[vb]? = some (.cells (viewCells tick own v) 36 (0, 0)) ∧ W.ownsRow n₀ 43 5 v pre.length (flat Seen.enc pre)) ∧ W.heap[w.heap.size + 1 + 1]? = some (.cells rc 36 (0, 0)) ∧ Below w.heap.size w W ∧ n₀ ≤ W.heap.size
theorem LoopI.from {w : World} {vb n₀ : Nat} {tick : Int} {own : Car} {rc : Array Value} {B : Nat} (hB : w.heap.size ≤ B) : OwnFrom B (LoopI w vb n₀ tick own rc) := by
  intro s W W' row hs hg hr
  obtain ⟨⟨v, h1, h2⟩, h3, h4, h5⟩ := hs
  exact ⟨⟨v, cells_from h1 hg hr, own_from (B := B) (v, s.length, flat Seen.enc s) W W' row h2 hg hr⟩, cells_from h3 hg hr, ownFrom_below (β := Unit) (Nat.le_refl _) hB () W W' row h4 hg hr, Nat.le_trans h5 hg.size⟩
/-- The loop variable's box. -/
def LoopA (T : Array Value) (x : Seen) (a : Act) (W : World) : Prop := ∃ Bx, W.heap[Bx]? = some (.cells x.enc.toArray 43 (0, 0)) ∧ a = { tmps := (T.setIfInBounds 43 x.val).setIfInBounds 12 (.pointer (some ⟨Bx, 0, none⟩)), defers := [] }
theorem LoopA.from {T : Array Value} {x : Seen} {a : Act} {B : Nat} : OwnFrom B (fun (_ : Unit) W => LoopA T x a W) := by
  intro s W W' row hs hg hr
  obtain ⟨Bx, h1, h2⟩ := hs
  exact ⟨Bx, cells_from h1 hg hr, h2⟩
theorem KpV.alloc {n₀ : Nat} (W : World) (o : Obj) : KpV n₀ W (W.alloc o) := ⟨by simp, fun k cs t fr hk _ => hk_alloc hk o⟩
theorem KpV.grown {n₀ : Nat} {W w' : World} {v : Value} {n : Nat} {xs : List Value} (ho : W.ownsRow n₀ 43 5 v n xs) (hg : W.grownBy w' v.ownBlock) : KpV n₀ W w' := by
  refine ⟨hg.size, fun k cs t fr hk ht => (hg.block k (hk_lt hk) ?_).trans hk⟩
  rcases ht with rfl | rfl | ⟨hl, rfl⟩
  · exact own_ne_cells ho hk (by decide)
  · exact own_ne_cells ho hk (by decide)
  · intro e
    have := (ho.lt k e.symm).1
    omega
theorem KpV.set {n₀ : Nat} (W : World) {b : Nat} {cs : Array Value} (hb : W.heap[b]? = some (.cells cs 36 (0, 0))) (i : Nat) (u : Value) : KpV n₀ W (W.setCell ⟨b, i, none⟩ u) := by
  refine ⟨by simp [World.setCell], fun k c t fr hk ht => hk_set hk ?_ u⟩
  rintro rfl
  rw [hb] at hk
  cases hk
  rcases ht with h | h | ⟨_, h⟩ <;> exact absurd h (by decide)
theorem keeps_own {W w' : World} {base : Nat} {e : TypeId} {k n : Nat} {v : Value} {xs : List Value} (ho : W.ownsRow base e k v n xs) (hg : W.grownBy w' v.ownBlock) : KeepsOthers W w' := by
  refine KeepsOthers.of_grownBy hg (fun j o hj hjo => ?_)
  rcases ho.2 with ⟨e1, _⟩ | ⟨g, cap, cur, e1, _, hgb, _⟩
  · rw [e1] at hj; cases hj
  · rw [e1] at hj
    cases hj
    rw [hgb] at hjo
    cases hjo
    rfl
theorem own_ne_dead {W : World} {base : Nat} {e : TypeId} {k n : Nat} {v : Value} {xs : List Value} {D : Nat} {x : Option (List Deferred)} (ho : W.ownsRow base e k v n xs) (hD : W.heap[D]? = some (.deferred x)) : some D ≠ v.ownBlock := by
  rcases ho.2 with ⟨e1, _⟩ | ⟨g, cap, cur, e1, _, hgb, _⟩
  · rw [e1]; simp [Value.ownBlock]
  · rw [e1]
    intro h
    simp [Value.ownBlock] at h
    subst h
    rw [hgb] at hD
    cases hD
end Go.Proofs.Ytnjgkgbgmjoceaa
