/-
  The laws' own small functions: own, kept, has, small.
-/
import Derived.Test.YtnjgkgbgmjoceaaOf
import Derived.Test.YtnjgkgbgmjoceaaOfNone
set_option linter.unusedSimpArgs false
set_option linter.unusedVariables false
namespace Go.Proofs.Ytnjgkgbgmjoceaa
open Go.RowKit Go.ChangeMaps Go.Sort

theorem kept_any (n m : Int) (hm : 0 ≤ m) (w : World) :
    Calls Try.prog 10 #[.int .i64 n, .int .i64 m] w fun e w' => e = .returned (.int .i64 (min (max n 0) m)) ∧ w' = w := by
  go_enter Try.func10, Try.ntmps10
  go_wp2_with fail
  all_goals (go_ret; exact ⟨ret_int (by omega), rfl⟩)

theorem car_end {fn : Func} {R : Ending → World → Prop} {p u : Tmp} (hres : fn.results = #[.cell p 33, .tmp u]) (tmps : Array Value) (wF : World) (b : Nat) (x : Value) (cs : Array Value) (h8 : tmps.getD p undef = .pointer (some ⟨b, 0, none⟩)) (h9 : tmps.getD u undef = x)
    (hr : wF.heap[b]? = some (.cells cs 33 (0, 0))) (hs : cs.size = 14)
    (hR : R (.returned (.tuple #[.agg cs, x])) wF) :
    bodyPost Try.prog fn R .ret { tmps := tmps, defers := [] } wF := by
  refine bodyPost_ret (v := .tuple #[.agg cs, x]) ?_ rfl hR
  rw [results_cell_tmp hres, h8, h9]
  have h1 : (asAddr (Value.pointer (some { block := b, off := 0 }))).run Try.prog wF = .ok ⟨b, 0, none⟩ wF := by simp [asAddr]
  rw [h1, Result.andThen_ok, run_loadVar_row wF b 33 33 cs (0, 0) _ hr Try.underlying33 rfl (by rw [hs]; kernel_rfl), Result.andThen_ok]

theorem own_end {fn : Func} {R : Ending → World → Prop} (wT : World) (b8 : Nat) (own : Car)
    (hr : wT.heap[b8]? = some (.cells #[.int .i64 0, .string { data := #[] }, .int .i64 0, .int .i64 0, .int .i64 0, .int .i64 0, .int .i64 0, .int .i64 0, .int .i64 0, .int .i64 0, .int .i64 0, .int .i64 0, .int .i64 0, .int .i64 0] 33 (0, 0)))
    (hR : ∀ w', wT.grownBy w' (some b8) → R (.returned (.tuple #[own.val, .bool true])) w') (hres : fn.results = #[.cell 4 33, .tmp 5]) :
    ∀ (tmps : Array Value) (h8 : tmps.getD 4 undef = .pointer (some ⟨b8, 0, none⟩)) (h9 : tmps.getD 5 undef = .bool true), bodyPost Try.prog fn R .ret { tmps := tmps, defers := [] } ((((((((((((((wT.setCell ⟨b8, 0, none⟩ (.int .i64 own.player)).setCell ⟨b8, 1, none⟩ (.string own.name)).setCell ⟨b8, 2, none⟩ (.int .i64 own.x)).setCell ⟨b8, 3, none⟩ (.int .i64 own.y)).setCell ⟨b8, 4, none⟩ (.int .i64 own.sx)).setCell ⟨b8, 5, none⟩ (.int .i64 own.sy)).setCell ⟨b8, 6, none⟩ (.int .i64 own.heading)).setCell ⟨b8, 7, none⟩ (.int .i64 own.health)).setCell ⟨b8, 8, none⟩ (.int .i64 own.energy)).setCell ⟨b8, 9, none⟩ (.int .i64 own.ammo)).setCell ⟨b8, 10, none⟩ (.int .i64 own.cool)).setCell ⟨b8, 11, none⟩ (.int .i64 own.wait)).setCell ⟨b8, 12, none⟩ (.int .i64 own.spawns)).setCell ⟨b8, 13, none⟩ (.int .i64 own.score)) := by
  intro tmps h8 h9
  have hg := sets_grown (b := b8) ([.int .i64 own.player, .string own.name, .int .i64 own.x, .int .i64 own.y, .int .i64 own.sx, .int .i64 own.sy, .int .i64 own.heading, .int .i64 own.health, .int .i64 own.energy, .int .i64 own.ammo, .int .i64 own.cool, .int .i64 own.wait, .int .i64 own.spawns, .int .i64 own.score] : List Value) wT 0
  have hs := sets_same ([.int .i64 own.player, .string own.name, .int .i64 own.x, .int .i64 own.y, .int .i64 own.sx, .int .i64 own.sy, .int .i64 own.heading, .int .i64 own.health, .int .i64 own.energy, .int .i64 own.ammo, .int .i64 own.cool, .int .i64 own.wait, .int .i64 own.spawns, .int .i64 own.score] : List Value) wT 0 _ hr
  have e2 : setsArr #[.int .i64 0, .string { data := #[] }, .int .i64 0, .int .i64 0, .int .i64 0, .int .i64 0, .int .i64 0, .int .i64 0, .int .i64 0, .int .i64 0, .int .i64 0, .int .i64 0, .int .i64 0, .int .i64 0] 0 ([.int .i64 own.player, .string own.name, .int .i64 own.x, .int .i64 own.y, .int .i64 own.sx, .int .i64 own.sy, .int .i64 own.heading, .int .i64 own.health, .int .i64 own.energy, .int .i64 own.ammo, .int .i64 own.cool, .int .i64 own.wait, .int .i64 own.spawns, .int .i64 own.score] : List Value) = #[.int .i64 own.player, .string own.name, .int .i64 own.x, .int .i64 own.y, .int .i64 own.sx, .int .i64 own.sy, .int .i64 own.heading, .int .i64 own.health, .int .i64 own.energy, .int .i64 own.ammo, .int .i64 own.cool, .int .i64 own.wait, .int .i64 own.spawns, .int .i64 own.score] := by simp [setsArr]
  rw [e2] at hs
  have e1 : setsFrom wT b8 0 ([.int .i64 own.player, .string own.name, .int .i64 own.x, .int .i64 own.y, .int .i64 own.sx, .int .i64 own.sy, .int .i64 own.heading, .int .i64 own.health, .int .i64 own.energy, .int .i64 own.ammo, .int .i64 own.cool, .int .i64 own.wait, .int .i64 own.spawns, .int .i64 own.score] : List Value) = (((((((((((((wT.setCell ⟨b8, 0, none⟩ (.int .i64 own.player)).setCell ⟨b8, 1, none⟩ (.string own.name)).setCell ⟨b8, 2, none⟩ (.int .i64 own.x)).setCell ⟨b8, 3, none⟩ (.int .i64 own.y)).setCell ⟨b8, 4, none⟩ (.int .i64 own.sx)).setCell ⟨b8, 5, none⟩ (.int .i64 own.sy)).setCell ⟨b8, 6, none⟩ (.int .i64 own.heading)).setCell ⟨b8, 7, none⟩ (.int .i64 own.health)).setCell ⟨b8, 8, none⟩ (.int .i64 own.energy)).setCell ⟨b8, 9, none⟩ (.int .i64 own.ammo)).setCell ⟨b8, 10, none⟩ (.int .i64 own.cool)).setCell ⟨b8, 11, none⟩ (.int .i64 own.wait)).setCell ⟨b8, 12, none⟩ (.int .i64 own.spawns)).setCell ⟨b8, 13, none⟩ (.int .i64 own.score) := by simp only [setsFrom]
  rw [← e1]
  generalize setsFrom wT b8 0 ([.int .i64 own.player, .string own.name, .int .i64 own.x, .int .i64 own.y, .int .i64 own.sx, .int .i64 own.sy, .int .i64 own.heading, .int .i64 own.health, .int .i64 own.energy, .int .i64 own.ammo, .int .i64 own.cool, .int .i64 own.wait, .int .i64 own.spawns, .int .i64 own.score] : List Value) = wF at *
  exact car_end hres tmps wF b8 _ _ h8 h9 hs rfl (hR _ hg)
theorem own_end0 {fn : Func} {R : Ending → World → Prop} (wT : World) (b8 : Nat)
    (hr : wT.heap[b8]? = some (.cells #[.int .i64 0, .string { data := #[] }, .int .i64 0, .int .i64 0, .int .i64 0, .int .i64 0, .int .i64 0, .int .i64 0, .int .i64 0, .int .i64 0, .int .i64 0, .int .i64 0, .int .i64 0, .int .i64 0] 33 (0, 0)))
    (hR : ∀ w', wT.grownBy w' (some b8) → R (.returned (.tuple #[(Car.val ⟨0, ⟨#[]⟩, 0, 0, 0, 0, 0, 0, 0, 0, 0, 0, 0, 0⟩), .bool false])) w') (hres : fn.results = #[.cell 4 33, .tmp 5]) :
    ∀ (tmps : Array Value) (h8 : tmps.getD 4 undef = .pointer (some ⟨b8, 0, none⟩)) (h9 : tmps.getD 5 undef = .bool false), bodyPost Try.prog fn R .ret { tmps := tmps, defers := [] } ((((((((((((((wT.setCell ⟨b8, 0, none⟩ (.int .i64 0)).setCell ⟨b8, 1, none⟩ (.string { data := #[] })).setCell ⟨b8, 2, none⟩ (.int .i64 0)).setCell ⟨b8, 3, none⟩ (.int .i64 0)).setCell ⟨b8, 4, none⟩ (.int .i64 0)).setCell ⟨b8, 5, none⟩ (.int .i64 0)).setCell ⟨b8, 6, none⟩ (.int .i64 0)).setCell ⟨b8, 7, none⟩ (.int .i64 0)).setCell ⟨b8, 8, none⟩ (.int .i64 0)).setCell ⟨b8, 9, none⟩ (.int .i64 0)).setCell ⟨b8, 10, none⟩ (.int .i64 0)).setCell ⟨b8, 11, none⟩ (.int .i64 0)).setCell ⟨b8, 12, none⟩ (.int .i64 0)).setCell ⟨b8, 13, none⟩ (.int .i64 0)) := by
  intro tmps h8 h9
  have hg := sets_grown (b := b8) ([.int .i64 0, .string { data := #[] }, .int .i64 0, .int .i64 0, .int .i64 0, .int .i64 0, .int .i64 0, .int .i64 0, .int .i64 0, .int .i64 0, .int .i64 0, .int .i64 0, .int .i64 0, .int .i64 0] : List Value) wT 0
  have hs := sets_same ([.int .i64 0, .string { data := #[] }, .int .i64 0, .int .i64 0, .int .i64 0, .int .i64 0, .int .i64 0, .int .i64 0, .int .i64 0, .int .i64 0, .int .i64 0, .int .i64 0, .int .i64 0, .int .i64 0] : List Value) wT 0 _ hr
  have e2 : setsArr #[.int .i64 0, .string { data := #[] }, .int .i64 0, .int .i64 0, .int .i64 0, .int .i64 0, .int .i64 0, .int .i64 0, .int .i64 0, .int .i64 0, .int .i64 0, .int .i64 0, .int .i64 0, .int .i64 0] 0 ([.int .i64 0, .string { data := #[] }, .int .i64 0, .int .i64 0, .int .i64 0, .int .i64 0, .int .i64 0, .int .i64 0, .int .i64 0, .int .i64 0, .int .i64 0, .int .i64 0, .int .i64 0, .int .i64 0] : List Value) = #[.int .i64 0, .string { data := #[] }, .int .i64 0, .int .i64 0, .int .i64 0, .int .i64 0, .int .i64 0, .int .i64 0, .int .i64 0, .int .i64 0, .int .i64 0, .int .i64 0, .int .i64 0, .int .i64 0] := by simp [setsArr]
  rw [e2] at hs
  have e1 : setsFrom wT b8 0 ([.int .i64 0, .string { data := #[] }, .int .i64 0, .int .i64 0, .int .i64 0, .int .i64 0, .int .i64 0, .int .i64 0, .int .i64 0, .int .i64 0, .int .i64 0, .int .i64 0, .int .i64 0, .int .i64 0] : List Value) = (((((((((((((wT.setCell ⟨b8, 0, none⟩ (.int .i64 0)).setCell ⟨b8, 1, none⟩ (.string { data := #[] })).setCell ⟨b8, 2, none⟩ (.int .i64 0)).setCell ⟨b8, 3, none⟩ (.int .i64 0)).setCell ⟨b8, 4, none⟩ (.int .i64 0)).setCell ⟨b8, 5, none⟩ (.int .i64 0)).setCell ⟨b8, 6, none⟩ (.int .i64 0)).setCell ⟨b8, 7, none⟩ (.int .i64 0)).setCell ⟨b8, 8, none⟩ (.int .i64 0)).setCell ⟨b8, 9, none⟩ (.int .i64 0)).setCell ⟨b8, 10, none⟩ (.int .i64 0)).setCell ⟨b8, 11, none⟩ (.int .i64 0)).setCell ⟨b8, 12, none⟩ (.int .i64 0)).setCell ⟨b8, 13, none⟩ (.int .i64 0) := by simp only [setsFrom]
  rw [← e1]
  generalize setsFrom wT b8 0 ([.int .i64 0, .string { data := #[] }, .int .i64 0, .int .i64 0, .int .i64 0, .int .i64 0, .int .i64 0, .int .i64 0, .int .i64 0, .int .i64 0, .int .i64 0, .int .i64 0, .int .i64 0, .int .i64 0] : List Value) = wF at *
  exact car_end hres tmps wF b8 _ _ h8 h9 hs rfl (hR _ hg)
set_option maxRecDepth 100000 in
set_option maxHeartbeats 4000000 in
theorem own_any (w : World) (tick next player : Int) (CA SA : Option Addr) (nc cc ns cs : Nat) (cars : List Car)
    (hC : Reads w Car.enc 14 CA nc cars) (hrc : nc ≤ 1073741824) :
    Calls Try.prog 8 #[.agg #[.int .u64 tick, .slice CA nc cc, .slice SA ns cs, .int .i64 next], .int .i64 player] w fun e w' =>
      ((∃ k own, cars.findIdx? (fun c => decide (c.player = player)) = some k ∧ cars[k]? = some own ∧ e = .returned (.tuple #[own.val, .bool true])) ∨
       (cars.findIdx? (fun c => decide (c.player = player)) = none ∧ e = .returned (.tuple #[Car.val ⟨0, ⟨#[]⟩, 0, 0, 0, 0, 0, 0, 0, 0, 0, 0, 0, 0⟩, .bool false]))) ∧ Below w.heap.size w w' := by
  go_enter Try.func8, Try.ntmps8
  go_wp2_with fail
  obtain ⟨w0, hw0⟩ : ∃ w0, w0 = (w.alloc (.cells #[.int .u64 tick, .slice CA nc cc, .slice SA ns cs, .int .i64 next] 26)).alloc (.cells #[.int .i64 0, .string { data := #[] }, .int .i64 0, .int .i64 0, .int .i64 0, .int .i64 0, .int .i64 0, .int .i64 0, .int .i64 0, .int .i64 0, .int .i64 0, .int .i64 0, .int .i64 0, .int .i64 0] 33) := ⟨_, rfl⟩
  have hst0 : w0.heap[w.heap.size]? = some (.cells #[.int .u64 tick, .slice CA nc cc, .slice SA ns cs, .int .i64 next] 26 (0, 0)) := by rw [hw0]; exact hk_alloc (heap_alloc_new w _) _
  have hrc0 : w0.heap[w.heap.size + 1]? = some (.cells #[.int .i64 0, .string { data := #[] }, .int .i64 0, .int .i64 0, .int .i64 0, .int .i64 0, .int .i64 0, .int .i64 0, .int .i64 0, .int .i64 0, .int .i64 0, .int .i64 0, .int .i64 0, .int .i64 0] 33 (0, 0)) := by rw [hw0]; exact alloc_at (by simp) _
  have hu0 : Up w w0 := by rw [hw0]; exact ((Up.refl w).alloc _).alloc _
  rw [← hw0]
  clear hw0
  have c1 : w0.cell? ⟨w.heap.size, 1, none⟩ = some (.slice CA nc cc) := hk_cell hst0 1
  have r0 : w0.cell? ⟨w.heap.size + 1, 0, none⟩ = some (.int .i64 0) := hk_cell hrc0 0
  have fr0 := hk_free hrc0 0
  have r1 : w0.cell? ⟨w.heap.size + 1, 1, none⟩ = some (.string { data := #[] }) := hk_cell hrc0 1
  have fr1 := hk_free hrc0 1
  have r2 : w0.cell? ⟨w.heap.size + 1, 2, none⟩ = some (.int .i64 0) := hk_cell hrc0 2
  have fr2 := hk_free hrc0 2
  have r3 : w0.cell? ⟨w.heap.size + 1, 3, none⟩ = some (.int .i64 0) := hk_cell hrc0 3
  have fr3 := hk_free hrc0 3
  have r4 : w0.cell? ⟨w.heap.size + 1, 4, none⟩ = some (.int .i64 0) := hk_cell hrc0 4
  have fr4 := hk_free hrc0 4
  have r5 : w0.cell? ⟨w.heap.size + 1, 5, none⟩ = some (.int .i64 0) := hk_cell hrc0 5
  have fr5 := hk_free hrc0 5
  have r6 : w0.cell? ⟨w.heap.size + 1, 6, none⟩ = some (.int .i64 0) := hk_cell hrc0 6
  have fr6 := hk_free hrc0 6
  have r7 : w0.cell? ⟨w.heap.size + 1, 7, none⟩ = some (.int .i64 0) := hk_cell hrc0 7
  have fr7 := hk_free hrc0 7
  have r8 : w0.cell? ⟨w.heap.size + 1, 8, none⟩ = some (.int .i64 0) := hk_cell hrc0 8
  have fr8 := hk_free hrc0 8
  have r9 : w0.cell? ⟨w.heap.size + 1, 9, none⟩ = some (.int .i64 0) := hk_cell hrc0 9
  have fr9 := hk_free hrc0 9
  have r10 : w0.cell? ⟨w.heap.size + 1, 10, none⟩ = some (.int .i64 0) := hk_cell hrc0 10
  have fr10 := hk_free hrc0 10
  have r11 : w0.cell? ⟨w.heap.size + 1, 11, none⟩ = some (.int .i64 0) := hk_cell hrc0 11
  have fr11 := hk_free hrc0 11
  have r12 : w0.cell? ⟨w.heap.size + 1, 12, none⟩ = some (.int .i64 0) := hk_cell hrc0 12
  have fr12 := hk_free hrc0 12
  have r13 : w0.cell? ⟨w.heap.size + 1, 13, none⟩ = some (.int .i64 0) := hk_cell hrc0 13
  have fr13 := hk_free hrc0 13
  have hC0 := hC.below hu0.below
  go_loopw [6] (fun c wr => wr = w0 ∧ ∃ k : Nat, c = .int .i64 k ∧ k ≤ nc ∧ (∀ x ∈ cars.take k, x.player ≠ player)) (fun c _ => nc - (intOf c).toNat)
  case atStart => exact ⟨rfl, 0, by simp, by omega, by simp⟩
  case round =>
    obtain ⟨rfl, k, rfl, hk, hne⟩ := hrel
    by_cases hkl : k < nc
    · obtain ⟨own, hx⟩ : ∃ x, cars[k]? = some x := ⟨_, List.getElem?_eq_getElem (by rw [hC.1]; exact hkl)⟩
      obtain ⟨bC, off, rfl, hbl, hcells⟩ := hC0.2 (by omega)
      have hd := hcells k own
      have d0 : wr.cell? ⟨bC, off + k * 14, none⟩ = some (.int .i64 own.player) := hd 0 _ hx rfl
      have d1 : wr.cell? ⟨bC, off + k * 14 + 1, none⟩ = some (.string own.name) := hd 1 _ hx rfl
      have d2 : wr.cell? ⟨bC, off + k * 14 + 2, none⟩ = some (.int .i64 own.x) := hd 2 _ hx rfl
      have d3 : wr.cell? ⟨bC, off + k * 14 + 3, none⟩ = some (.int .i64 own.y) := hd 3 _ hx rfl
      have d4 : wr.cell? ⟨bC, off + k * 14 + 4, none⟩ = some (.int .i64 own.sx) := hd 4 _ hx rfl
      have d5 : wr.cell? ⟨bC, off + k * 14 + 5, none⟩ = some (.int .i64 own.sy) := hd 5 _ hx rfl
      have d6 : wr.cell? ⟨bC, off + k * 14 + 6, none⟩ = some (.int .i64 own.heading) := hd 6 _ hx rfl
      have d7 : wr.cell? ⟨bC, off + k * 14 + 7, none⟩ = some (.int .i64 own.health) := hd 7 _ hx rfl
      have d8 : wr.cell? ⟨bC, off + k * 14 + 8, none⟩ = some (.int .i64 own.energy) := hd 8 _ hx rfl
      have d9 : wr.cell? ⟨bC, off + k * 14 + 9, none⟩ = some (.int .i64 own.ammo) := hd 9 _ hx rfl
      have d10 : wr.cell? ⟨bC, off + k * 14 + 10, none⟩ = some (.int .i64 own.cool) := hd 10 _ hx rfl
      have d11 : wr.cell? ⟨bC, off + k * 14 + 11, none⟩ = some (.int .i64 own.wait) := hd 11 _ hx rfl
      have d12 : wr.cell? ⟨bC, off + k * 14 + 12, none⟩ = some (.int .i64 own.spawns) := hd 12 _ hx rfl
      have d13 : wr.cell? ⟨bC, off + k * 14 + 13, none⟩ = some (.int .i64 own.score) := hd 13 _ hx rfl
      clear hd hcells
      by_cases hp : own.player = player
      · subst hp
        go_wp2_with fail
        have hend := own_end (fn := Try.f8) (R := fun e w' => ((∃ k own1, cars.findIdx? (fun c => decide (c.player = own.player)) = some k ∧ cars[k]? = some own1 ∧ e = .returned (.tuple #[own1.val, .bool true])) ∨
       (cars.findIdx? (fun c => decide (c.player = own.player)) = none ∧ e = .returned (.tuple #[Car.val ⟨0, ⟨#[]⟩, 0, 0, 0, 0, 0, 0, 0, 0, 0, 0, 0, 0⟩, .bool false]))) ∧ Below w.heap.size w w') wr (w.heap.size + 1) own hrc0 ?_ rfl
        · exact hend _ rfl rfl
        · intro w' hg
          refine ⟨.inl ⟨k, own, find_at hx rfl hne, hx, rfl⟩, ?_⟩
          have k1 : Kp (fun k => w.heap.size ≤ k) wr w' := Kp.grown hg (fun k e => by cases e; omega)
          exact hu0.below.trans (k1.below hu0.size (fun k h => h))
      · go_wp2_with fail
        refine ⟨⟨by first | rfl | trivial, k + 1, by go_num, by omega, ?_⟩, by simp [intOf]; omega⟩
        have hkl2 : k < cars.length := by rw [hC.1]; exact hkl
        rw [List.take_succ_eq_append_getElem hkl2]
        intro y hy
        rcases List.mem_append.1 hy with hy | hy
        · exact hne y hy
        · have : y = own := by
            rw [List.getElem?_eq_getElem hkl2] at hx
            rw [← Option.some.inj hx]
            simpa using hy
          rw [this]
          exact hp
    · obtain rfl : nc = k := by omega
      rw [← hC.1, List.take_length] at hne
      go_wp2_with fail
      have hend := own_end0 (fn := Try.f8) (R := fun e w' => ((∃ k own, cars.findIdx? (fun c => decide (c.player = player)) = some k ∧ cars[k]? = some own ∧ e = .returned (.tuple #[own.val, .bool true])) ∨
       (cars.findIdx? (fun c => decide (c.player = player)) = none ∧ e = .returned (.tuple #[Car.val ⟨0, ⟨#[]⟩, 0, 0, 0, 0, 0, 0, 0, 0, 0, 0, 0, 0⟩, .bool false]))) ∧ Below w.heap.size w w') wr (w.heap.size + 1) hrc0 ?_ rfl
      · exact hend _ rfl rfl
      · intro w' hg
        refine ⟨.inr ⟨by rw [List.findIdx?_eq_none_iff]; intro x hx; simpa using hne x hx, rfl⟩, ?_⟩
        have k1 : Kp (fun k => w.heap.size ≤ k) wr w' := Kp.grown hg (fun k e => by cases e; omega)
        exact hu0.below.trans (k1.below hu0.size (fun k h => h))
end Go.Proofs.Ytnjgkgbgmjoceaa
