/-
  The end of view.Of.
-/
import Derived.Test.YtnjgkgbgmjoceaaOfLoop
import Derived.Laws.Rows
import Derived.Laws.ResultCell
set_option linter.unusedSimpArgs false
set_option linter.unusedVariables false
namespace Go.Proofs.Ytnjgkgbgmjoceaa
open Go.RowKit Go.ChangeMaps Go.Sort

def setsFrom (w : World) (b : Nat) : Nat → List Value → World
  | _, [] => w
  | i, u :: us => setsFrom (w.setCell ⟨b, i, none⟩ u) b (i + 1) us
def setsArr (cs : Array Value) : Nat → List Value → Array Value
  | _, [] => cs
  | i, u :: us => setsArr (cs.setIfInBounds i u) (i + 1) us
theorem sets_same {b : Nat} {t : TypeId} {f : Nat × Nat} (us : List Value) (w : World) (i : Nat) (cs : Array Value) (h : w.heap[b]? = some (.cells cs t f)) : (setsFrom w b i us).heap[b]? = some (.cells (setsArr cs i us) t f) := by
  induction us generalizing w i cs with
  | nil => exact h
  | cons u us ih => exact ih _ _ _ (blk_set1 h i u)
theorem sets_grown {b : Nat} (us : List Value) (w : World) (i : Nat) : w.grownBy (setsFrom w b i us) (some b) := by
  induction us generalizing w i with
  | nil => exact ⟨rfl, rfl, rfl, Nat.le_refl _, fun _ _ _ => rfl⟩
  | cons u us ih =>
    have h1 := World.grownBy_set w b i u
    have h2 := ih (w.setCell ⟨b, i, none⟩ u) (i + 1)
    exact ⟨h2.os.trans h1.os, h2.tape.trans h1.tape, h2.output.trans h1.output, Nat.le_trans h1.size h2.size, fun k hk hn => (h2.block k (Nat.lt_of_lt_of_le hk h1.size) hn).trans (h1.block k hk hn)⟩

theorem loadView (w : World) (b : Nat) (cs : Array Value) (h : w.heap[b]? = some (.cells cs 36 (0, 0))) (hs : cs.size = 16) : (loadVar 36 ⟨b, 0, none⟩).run Try.prog w = .ok (.agg cs) w :=
  run_loadVar_row w b 36 36 cs (0, 0) _ h Try.underlying36 rfl (by rw [hs]; kernel_rfl)
theorem of_end {R : Ending → World → Prop} (tmps : Array Value) (wF : World) (b8 D : Nat) (x : Int) (cs : Array Value) (h8 : tmps.getD 8 undef = .pointer (some ⟨b8, 0, none⟩)) (h9 : tmps.getD 9 undef = .int .i64 x)
    (hr : wF.heap[b8]? = some (.cells cs 36 (0, 0))) (hs : cs.size = 16) (hD : wF.heap[D]? = some (.deferred (some [])))
    (hR : R (.returned (.tuple #[.agg cs, .int .i64 x])) (wF.putObj D (.deferred none))) :
    bodyPostM Fence.wide 3 Try.prog Try.f7 R .ret { tmps := tmps, defers := [{ target := .collected D, args := #[] }] } wF := by
  refine ⟨by simp, .inl ⟨_, _, rfl, run_takeDeferred hD, ?_⟩⟩
  have hne : b8 ≠ D := by rintro rfl; rw [hr] at hD; cases hD
  have hr' : (wF.putObj D (.deferred none)).heap[b8]? = some (.cells cs 36 (0, 0)) := ((grownBy_putObj' wF D _).block b8 (hk_lt hr) (fun e => hne (Option.some.inj e))).trans hr
  refine ⟨_, ?_, hR⟩
  rw [results_cell_tmp rfl, h8, h9]
  have h1 : (asAddr (Value.pointer (some { block := b8, off := 0 }))).run Try.prog (wF.putObj D (.deferred none)) = .ok ⟨b8, 0, none⟩ (wF.putObj D (.deferred none)) := by simp [asAddr]
  rw [h1, Result.andThen_ok, loadView _ _ _ hr' hs, Result.andThen_ok]
theorem of_end0 {R : Ending → World → Prop} (tmps : Array Value) (wF : World) (b8 : Nat) (x : Int) (cs : Array Value) (h8 : tmps.getD 8 undef = .pointer (some ⟨b8, 0, none⟩)) (h9 : tmps.getD 9 undef = .int .i64 x)
    (hr : wF.heap[b8]? = some (.cells cs 36 (0, 0))) (hs : cs.size = 16)
    (hR : R (.returned (.tuple #[.agg cs, .int .i64 x])) wF) :
    bodyPostM Fence.wide 3 Try.prog Try.f7 R .ret { tmps := tmps, defers := [] } wF := by
  refine ⟨_, ?_, hR⟩
  rw [results_cell_tmp rfl, h8, h9]
  have h1 : (asAddr (Value.pointer (some { block := b8, off := 0 }))).run Try.prog wF = .ok ⟨b8, 0, none⟩ wF := by simp [asAddr]
  rw [h1, Result.andThen_ok, loadView _ _ _ hr hs, Result.andThen_ok]
/-- Two blocks at most have turned. -/
structure Two (w w' : World) (b D : Nat) : Prop where
  os : w'.os = w.os
  tape : w'.tape = w.tape
  output : w'.output = w.output
  size : w.heap.size ≤ w'.heap.size
  block : ∀ k, k < w.heap.size → k ≠ b → k ≠ D → w'.heap[k]? = w.heap[k]?
theorem of_view_end {R : Ending → World → Prop} (wT : World) (b8 D : Nat) (tick : Int) (own : Car) (v : Value)
    (hr : wT.heap[b8]? = some (.cells #[.int .u64 0, .int .i64 0, .string { data := #[] }, .int .i64 0, .int .i64 0, .int .i64 0, .int .i64 0, .int .i64 0, .int .i64 0, .int .i64 0, .int .i64 0, .int .i64 0, .int .i64 0, .int .i64 0, .int .i64 0, .slice none 0 0] 36 (0, 0))) (hD : wT.heap[D]? = some (.deferred (some [])))
    (hR : ∀ w', Two wT w' b8 D → R (.returned (.tuple #[.agg (viewCells tick own v), .int .i64 0])) w') :
    ∀ (tmps : Array Value) (h8 : tmps.getD 8 undef = .pointer (some ⟨b8, 0, none⟩)) (h9 : tmps.getD 9 undef = .int .i64 0), bodyPostM Fence.wide 3 Try.prog Try.f7 R .ret { tmps := tmps, defers := [{ target := .collected D, args := #[] }] } ((((((((((((((((wT.setCell ⟨b8, 0, none⟩ (.int .u64 tick)).setCell ⟨b8, 1, none⟩ (.int .i64 own.player)).setCell ⟨b8, 2, none⟩ (.string own.name)).setCell ⟨b8, 3, none⟩ (.int .i64 own.x)).setCell ⟨b8, 4, none⟩ (.int .i64 own.y)).setCell ⟨b8, 5, none⟩ (.int .i64 own.sx)).setCell ⟨b8, 6, none⟩ (.int .i64 own.sy)).setCell ⟨b8, 7, none⟩ (.int .i64 own.heading)).setCell ⟨b8, 8, none⟩ (.int .i64 own.health)).setCell ⟨b8, 9, none⟩ (.int .i64 own.energy)).setCell ⟨b8, 10, none⟩ (.int .i64 own.ammo)).setCell ⟨b8, 11, none⟩ (.int .i64 own.cool)).setCell ⟨b8, 12, none⟩ (.int .i64 own.wait)).setCell ⟨b8, 13, none⟩ (.int .i64 own.spawns)).setCell ⟨b8, 14, none⟩ (.int .i64 own.score)).setCell ⟨b8, 15, none⟩ (v)) := by
  intro tmps h8 h9
  have hg := sets_grown (b := b8) ([.int .u64 tick, .int .i64 own.player, .string own.name, .int .i64 own.x, .int .i64 own.y, .int .i64 own.sx, .int .i64 own.sy, .int .i64 own.heading, .int .i64 own.health, .int .i64 own.energy, .int .i64 own.ammo, .int .i64 own.cool, .int .i64 own.wait, .int .i64 own.spawns, .int .i64 own.score, v] : List Value) wT 0
  have hs := sets_same ([.int .u64 tick, .int .i64 own.player, .string own.name, .int .i64 own.x, .int .i64 own.y, .int .i64 own.sx, .int .i64 own.sy, .int .i64 own.heading, .int .i64 own.health, .int .i64 own.energy, .int .i64 own.ammo, .int .i64 own.cool, .int .i64 own.wait, .int .i64 own.spawns, .int .i64 own.score, v] : List Value) wT 0 _ hr
  have e2 : setsArr #[.int .u64 0, .int .i64 0, .string { data := #[] }, .int .i64 0, .int .i64 0, .int .i64 0, .int .i64 0, .int .i64 0, .int .i64 0, .int .i64 0, .int .i64 0, .int .i64 0, .int .i64 0, .int .i64 0, .int .i64 0, .slice none 0 0] 0 ([.int .u64 tick, .int .i64 own.player, .string own.name, .int .i64 own.x, .int .i64 own.y, .int .i64 own.sx, .int .i64 own.sy, .int .i64 own.heading, .int .i64 own.health, .int .i64 own.energy, .int .i64 own.ammo, .int .i64 own.cool, .int .i64 own.wait, .int .i64 own.spawns, .int .i64 own.score, v] : List Value) = viewCells tick own v := by simp [setsArr, viewCells]
  rw [e2] at hs
  have hDF := (hg.block D (hk_lt hD) (fun e => by rw [Option.some.inj e, hr] at hD; cases hD)).trans hD
  have e1 : setsFrom wT b8 0 ([.int .u64 tick, .int .i64 own.player, .string own.name, .int .i64 own.x, .int .i64 own.y, .int .i64 own.sx, .int .i64 own.sy, .int .i64 own.heading, .int .i64 own.health, .int .i64 own.energy, .int .i64 own.ammo, .int .i64 own.cool, .int .i64 own.wait, .int .i64 own.spawns, .int .i64 own.score, v] : List Value) = (((((((((((((((wT.setCell ⟨b8, 0, none⟩ (.int .u64 tick)).setCell ⟨b8, 1, none⟩ (.int .i64 own.player)).setCell ⟨b8, 2, none⟩ (.string own.name)).setCell ⟨b8, 3, none⟩ (.int .i64 own.x)).setCell ⟨b8, 4, none⟩ (.int .i64 own.y)).setCell ⟨b8, 5, none⟩ (.int .i64 own.sx)).setCell ⟨b8, 6, none⟩ (.int .i64 own.sy)).setCell ⟨b8, 7, none⟩ (.int .i64 own.heading)).setCell ⟨b8, 8, none⟩ (.int .i64 own.health)).setCell ⟨b8, 9, none⟩ (.int .i64 own.energy)).setCell ⟨b8, 10, none⟩ (.int .i64 own.ammo)).setCell ⟨b8, 11, none⟩ (.int .i64 own.cool)).setCell ⟨b8, 12, none⟩ (.int .i64 own.wait)).setCell ⟨b8, 13, none⟩ (.int .i64 own.spawns)).setCell ⟨b8, 14, none⟩ (.int .i64 own.score)).setCell ⟨b8, 15, none⟩ (v) := by simp only [setsFrom]
  rw [← e1]
  generalize setsFrom wT b8 0 ([.int .u64 tick, .int .i64 own.player, .string own.name, .int .i64 own.x, .int .i64 own.y, .int .i64 own.sx, .int .i64 own.sy, .int .i64 own.heading, .int .i64 own.health, .int .i64 own.energy, .int .i64 own.ammo, .int .i64 own.cool, .int .i64 own.wait, .int .i64 own.spawns, .int .i64 own.score, v] : List Value) = wF at *
  refine of_end tmps wF b8 D 0 (viewCells tick own v) h8 h9 hs rfl hDF (hR _ ?_)
  have hp := grownBy_putObj' wF D (.deferred none)
  exact ⟨hp.os.trans hg.os, hp.tape.trans hg.tape, hp.output.trans hg.output, Nat.le_trans hg.size hp.size, fun k hk h1 h2 => (hp.block k (Nat.lt_of_lt_of_le hk hg.size) (fun e => h2 (Option.some.inj e))).trans (hg.block k hk (fun e => h1 (Option.some.inj e)))⟩
theorem own_two {w w' : World} {b D base : Nat} {e : TypeId} {k n : Nat} {v : Value} {xs : List Value} (h : w.ownsRow base e k v n xs) (ht : Two w w' b D) (h1 : some b ≠ v.ownBlock) (h2 : some D ≠ v.ownBlock) : w'.ownsRow base e k v n xs := by
  refine ⟨h.1, ?_⟩
  rcases h.2 with hn | ⟨g, cap, cur, rfl, hb, hg, rest⟩
  · exact .inl hn
  · refine .inr ⟨g, cap, cur, rfl, hb, (ht.block g (hk_lt hg) ?_ ?_).trans hg, rest⟩
    · intro e; exact h1 (by rw [e]; rfl)
    · intro e; exact h2 (by rw [e]; rfl)
theorem Kp.two {S : Nat → Prop} {w w' : World} {b D : Nat} (h : Two w w' b D) (hb : S b) (hD : S D) : Kp S w w' :=
  ⟨h.os, h.tape, h.output, h.size, fun k hk hs => h.block k hk (fun e => hs (e ▸ hb)) (fun e => hs (e ▸ hD))⟩
theorem own_mono {w : World} {base base' : Nat} {e : TypeId} {k n : Nat} {v : Value} {xs : List Value} (h : w.ownsRow base e k v n xs) (hb : base' ≤ base) : w.ownsRow base' e k v n xs := by
  refine ⟨h.1, ?_⟩
  rcases h.2 with hn | ⟨g, cap, cur, rfl, hg, rest⟩
  · exact .inl hn
  · exact .inr ⟨g, cap, cur, rfl, Nat.le_trans hb hg, rest⟩
theorem of_zero_end {R : Ending → World → Prop} (wT : World) (b8 : Nat)
    (hr : wT.heap[b8]? = some (.cells #[.int .u64 0, .int .i64 0, .string { data := #[] }, .int .i64 0, .int .i64 0, .int .i64 0, .int .i64 0, .int .i64 0, .int .i64 0, .int .i64 0, .int .i64 0, .int .i64 0, .int .i64 0, .int .i64 0, .int .i64 0, .slice none 0 0] 36 (0, 0)))
    (hR : ∀ w', wT.grownBy w' (some b8) → R (.returned (.tuple #[.agg #[.int .u64 0, .int .i64 0, .string { data := #[] }, .int .i64 0, .int .i64 0, .int .i64 0, .int .i64 0, .int .i64 0, .int .i64 0, .int .i64 0, .int .i64 0, .int .i64 0, .int .i64 0, .int .i64 0, .int .i64 0, .slice none 0 0], .int .i64 210])) w') :
    ∀ (tmps : Array Value) (h8 : tmps.getD 8 undef = .pointer (some ⟨b8, 0, none⟩)) (h9 : tmps.getD 9 undef = .int .i64 210), bodyPostM Fence.wide 3 Try.prog Try.f7 R .ret { tmps := tmps, defers := [] } ((((((((((((((((wT.setCell ⟨b8, 0, none⟩ (.int .u64 0)).setCell ⟨b8, 1, none⟩ (.int .i64 0)).setCell ⟨b8, 2, none⟩ (.string { data := #[] })).setCell ⟨b8, 3, none⟩ (.int .i64 0)).setCell ⟨b8, 4, none⟩ (.int .i64 0)).setCell ⟨b8, 5, none⟩ (.int .i64 0)).setCell ⟨b8, 6, none⟩ (.int .i64 0)).setCell ⟨b8, 7, none⟩ (.int .i64 0)).setCell ⟨b8, 8, none⟩ (.int .i64 0)).setCell ⟨b8, 9, none⟩ (.int .i64 0)).setCell ⟨b8, 10, none⟩ (.int .i64 0)).setCell ⟨b8, 11, none⟩ (.int .i64 0)).setCell ⟨b8, 12, none⟩ (.int .i64 0)).setCell ⟨b8, 13, none⟩ (.int .i64 0)).setCell ⟨b8, 14, none⟩ (.int .i64 0)).setCell ⟨b8, 15, none⟩ (.slice none 0 0)) := by
  intro tmps h8 h9
  have hg := sets_grown (b := b8) ([.int .u64 0, .int .i64 0, .string { data := #[] }, .int .i64 0, .int .i64 0, .int .i64 0, .int .i64 0, .int .i64 0, .int .i64 0, .int .i64 0, .int .i64 0, .int .i64 0, .int .i64 0, .int .i64 0, .int .i64 0, .slice none 0 0] : List Value) wT 0
  have hs := sets_same ([.int .u64 0, .int .i64 0, .string { data := #[] }, .int .i64 0, .int .i64 0, .int .i64 0, .int .i64 0, .int .i64 0, .int .i64 0, .int .i64 0, .int .i64 0, .int .i64 0, .int .i64 0, .int .i64 0, .int .i64 0, .slice none 0 0] : List Value) wT 0 _ hr
  have e2 : setsArr #[.int .u64 0, .int .i64 0, .string { data := #[] }, .int .i64 0, .int .i64 0, .int .i64 0, .int .i64 0, .int .i64 0, .int .i64 0, .int .i64 0, .int .i64 0, .int .i64 0, .int .i64 0, .int .i64 0, .int .i64 0, .slice none 0 0] 0 ([.int .u64 0, .int .i64 0, .string { data := #[] }, .int .i64 0, .int .i64 0, .int .i64 0, .int .i64 0, .int .i64 0, .int .i64 0, .int .i64 0, .int .i64 0, .int .i64 0, .int .i64 0, .int .i64 0, .int .i64 0, .slice none 0 0] : List Value) = #[.int .u64 0, .int .i64 0, .string { data := #[] }, .int .i64 0, .int .i64 0, .int .i64 0, .int .i64 0, .int .i64 0, .int .i64 0, .int .i64 0, .int .i64 0, .int .i64 0, .int .i64 0, .int .i64 0, .int .i64 0, .slice none 0 0] := by simp [setsArr]
  rw [e2] at hs
  have e1 : setsFrom wT b8 0 ([.int .u64 0, .int .i64 0, .string { data := #[] }, .int .i64 0, .int .i64 0, .int .i64 0, .int .i64 0, .int .i64 0, .int .i64 0, .int .i64 0, .int .i64 0, .int .i64 0, .int .i64 0, .int .i64 0, .int .i64 0, .slice none 0 0] : List Value) = (((((((((((((((wT.setCell ⟨b8, 0, none⟩ (.int .u64 0)).setCell ⟨b8, 1, none⟩ (.int .i64 0)).setCell ⟨b8, 2, none⟩ (.string { data := #[] })).setCell ⟨b8, 3, none⟩ (.int .i64 0)).setCell ⟨b8, 4, none⟩ (.int .i64 0)).setCell ⟨b8, 5, none⟩ (.int .i64 0)).setCell ⟨b8, 6, none⟩ (.int .i64 0)).setCell ⟨b8, 7, none⟩ (.int .i64 0)).setCell ⟨b8, 8, none⟩ (.int .i64 0)).setCell ⟨b8, 9, none⟩ (.int .i64 0)).setCell ⟨b8, 10, none⟩ (.int .i64 0)).setCell ⟨b8, 11, none⟩ (.int .i64 0)).setCell ⟨b8, 12, none⟩ (.int .i64 0)).setCell ⟨b8, 13, none⟩ (.int .i64 0)).setCell ⟨b8, 14, none⟩ (.int .i64 0)).setCell ⟨b8, 15, none⟩ (.slice none 0 0) := by simp only [setsFrom]
  rw [← e1]
  generalize setsFrom wT b8 0 ([.int .u64 0, .int .i64 0, .string { data := #[] }, .int .i64 0, .int .i64 0, .int .i64 0, .int .i64 0, .int .i64 0, .int .i64 0, .int .i64 0, .int .i64 0, .int .i64 0, .int .i64 0, .int .i64 0, .int .i64 0, .slice none 0 0] : List Value) = wF at *
  exact of_end0 tmps wF b8 210 _ h8 h9 hs rfl (hR _ hg)
end Go.Proofs.Ytnjgkgbgmjoceaa
