/-
  slices.Equal of what is seen; view.Equal.
-/
import Derived.Test.YtnjgkgbgmjoceaaHas
set_option linter.unusedSimpArgs false
set_option linter.unusedVariables false
namespace Go.Proofs.Ytnjgkgbgmjoceaa
open Go.RowKit Go.ChangeMaps Go.Sort

theorem seen_binne (a b : Seen) (w : World) : (binOp .neq 43 a.val b.val).run Try.prog w = .ok (.bool (!decide (a = b))) w := by
  have h := seen_eq a b w
  unfold Seen.val at *
  simp only [binOp, Sem.run_bind, h, Result.andThen_ok, Sem.run_pure]
theorem take_eq_of {xs ys : List Seen} (hl : xs.length = ys.length) {k : Nat} {x y : Seen} (hx : xs[k]? = some x) (hy : ys[k]? = some y) (h : xs.take k = ys.take k) : xs.take (k + 1) = ys.take (k + 1) ↔ x = y := by
  obtain ⟨h1, rfl⟩ := List.getElem?_eq_some_iff.1 hx
  obtain ⟨h2, rfl⟩ := List.getElem?_eq_some_iff.1 hy
  have e2 : ys.take (k + 1) = ys.take k ++ [ys[k]] := List.take_succ_eq_append_getElem h2
  rw [List.take_succ_eq_append_getElem h1, e2, h, List.append_cancel_left_eq]
  simp

set_option maxRecDepth 100000 in
set_option maxHeartbeats 2000000 in
theorem seqEqual_any (w : World) (A B : Option Addr) (n c m d : Nat) (xs ys : List Seen) (hX : Reads w Seen.enc 5 A n xs) (hY : Reads w Seen.enc 5 B m ys) (hn : n ≤ 4294967296) (hm : m ≤ 4294967296) :
    Calls Try.prog 30 #[.slice A n c, .slice B m d] w fun e w' => e = .returned (.bool (decide (xs = ys))) ∧ Up w w' := by
  have heq := fun (a b : Seen) (W : World) => seen_binne a b W
  unfold Seen.val at *
  go_enter Try.func30, Try.ntmps30
  by_cases hnm : n = m
  · subst hnm
    go_wp2_with fail
    go_loopw [13] (fun c wr => ∃ k : Nat, c = .int .i64 k ∧ k ≤ n ∧ xs.take k = ys.take k ∧ Up w wr) (fun c _ => n - (intOf c).toNat)
    case atStart => exact ⟨0, by simp, by omega, by simp, Up.refl _⟩
    case round =>
      obtain ⟨k, rfl, hk, hne, hu⟩ := hrel
      by_cases hkl : k < n
      · obtain ⟨x, hx⟩ : ∃ y, xs[k]? = some y := ⟨_, List.getElem?_eq_getElem (by rw [hX.1]; exact hkl)⟩
        obtain ⟨y, hy⟩ : ∃ y, ys[k]? = some y := ⟨_, List.getElem?_eq_getElem (by rw [hY.1]; exact hkl)⟩
        obtain ⟨bC, off, rfl, hbl, hcells⟩ := (hX.below hu.below).2 (by omega)
        obtain ⟨bD, off2, rfl, hbl2, hcells2⟩ := (hY.below hu.below).2 (by omega)
        have hd := hcells k x
        have he := hcells2 k y
        have d0 : wr.cell? ⟨bC, off + k * 5, none⟩ = some (.int .i64 x.kind) := hd 0 _ hx rfl
        have d1 : wr.cell? ⟨bC, off + k * 5 + 1, none⟩ = some (.int .i64 x.id) := hd 1 _ hx rfl
        have d2 : wr.cell? ⟨bC, off + k * 5 + 2, none⟩ = some (.int .i64 x.x) := hd 2 _ hx rfl
        have d3 : wr.cell? ⟨bC, off + k * 5 + 3, none⟩ = some (.int .i64 x.y) := hd 3 _ hx rfl
        have d4 : wr.cell? ⟨bC, off + k * 5 + 4, none⟩ = some (.int .i64 x.heading) := hd 4 _ hx rfl
        have e0 : wr.cell? ⟨bD, off2 + k * 5, none⟩ = some (.int .i64 y.kind) := he 0 _ hy rfl
        have e1 : wr.cell? ⟨bD, off2 + k * 5 + 1, none⟩ = some (.int .i64 y.id) := he 1 _ hy rfl
        have e2 : wr.cell? ⟨bD, off2 + k * 5 + 2, none⟩ = some (.int .i64 y.x) := he 2 _ hy rfl
        have e3 : wr.cell? ⟨bD, off2 + k * 5 + 3, none⟩ = some (.int .i64 y.y) := he 3 _ hy rfl
        have e4 : wr.cell? ⟨bD, off2 + k * 5 + 4, none⟩ = some (.int .i64 y.heading) := he 4 _ hy rfl
        have hmem := take_eq_of (by rw [hX.1, hY.1]) hx hy hne
        clear hd he hcells hcells2
        go_wp2_with fail
        go_region_held3 (fun w' => w'.cell? ⟨bC, off + k * 5, none⟩ = some (.int .i64 x.kind) ∧ w'.cell? ⟨bC, off + k * 5 + 1, none⟩ = some (.int .i64 x.id) ∧ w'.cell? ⟨bC, off + k * 5 + 2, none⟩ = some (.int .i64 x.x) ∧ w'.cell? ⟨bC, off + k * 5 + 3, none⟩ = some (.int .i64 x.y) ∧ w'.cell? ⟨bC, off + k * 5 + 4, none⟩ = some (.int .i64 x.heading) ∧ w'.cell? ⟨bD, off2 + k * 5, none⟩ = some (.int .i64 y.kind) ∧ w'.cell? ⟨bD, off2 + k * 5 + 1, none⟩ = some (.int .i64 y.id) ∧ w'.cell? ⟨bD, off2 + k * 5 + 2, none⟩ = some (.int .i64 y.x) ∧ w'.cell? ⟨bD, off2 + k * 5 + 3, none⟩ = some (.int .i64 y.y) ∧ w'.cell? ⟨bD, off2 + k * 5 + 4, none⟩ = some (.int .i64 y.heading)) (first | (((try dsimp only); (repeat' apply And.intro) <;> (first | assumption | omega | ((try simp only [World.size_alloc, World.size_drew]); omega) | ((try simp only [World.size_alloc, World.size_drew] at hz ⊢); omega) | ((simp only [World.size_alloc, World.size_drew] at *); omega) | (rw [hc _ _ (by (try simp only [World.size_alloc, World.size_drew]); omega)]; go_simp) | ((repeat (first | assumption | (refine hk_alloc ?_ _) | (refine hk_set ?_ (by first | assumption | omega) _) | (refine hk_up (by assumption) ?_))); done) | go_keep))))
          (first | fail)
        go_wp2_with fail
        · go_ret
          refine ⟨ret_bool ?_, hu.drew⟩
          have hxy : ¬ x = y := by first | assumption | (intro hxy; simp_all)
          have : ¬ xs = ys := fun h => hxy (hmem.1 (by rw [h]))
          simp [this]
        · have hxy : x = y := by first | assumption | (simp_all; done)
          refine ⟨⟨k + 1, by go_num, by omega, hmem.2 hxy, hu.drew⟩, by simp [intOf]; omega⟩
      · obtain rfl : n = k := by omega
        have h1 : xs.take n = xs := List.take_of_length_le (by rw [hX.1]; exact Nat.le_refl _)
        have h2 : ys.take n = ys := List.take_of_length_le (by rw [hY.1]; exact Nat.le_refl _)
        rw [h1, h2] at hne
        go_wp2_with fail
        go_ret
        exact ⟨ret_bool (by simp [hne]), hu⟩
  · go_wp2_with fail
    go_ret
    refine ⟨ret_bool ?_, Up.refl _⟩
    have : ¬ xs = ys := fun h => hnm (by rw [← hX.1, ← hY.1, h])
    simp [this]

set_option maxRecDepth 100000 in
set_option maxHeartbeats 4000000 in
theorem viewEqual_any (w : World) (t1 t2 : Int) (o1 o2 : Car) (A B : Option Addr) (n c m d : Nat) (xs ys : List Seen) (hX : Reads w Seen.enc 5 A n xs) (hY : Reads w Seen.enc 5 B m ys) (hn : n ≤ 4294967296) (hm : m ≤ 4294967296) :
    Calls Try.prog 9 #[.agg (viewCells t1 o1 (.slice A n c)), .agg (viewCells t2 o2 (.slice B m d))] w fun e w' => e = .returned (.bool (decide (t1 = t2) && (decide (o1 = o2) && decide (xs = ys)))) ∧ Up w w' := by
  have hce := fun (W : World) => car_binop o1 o2 W
  unfold Car.val at hce
  have hse := fun (W : World) (hu : Up w W) => seqEqual_any W A B n c m d xs ys (hX.below hu.below) (hY.below hu.below) hn hm
  unfold viewCells
  go_enter Try.func9, Try.ntmps9
  by_cases ht : t1 = t2
  · by_cases ho : o1 = o2
    · subst ht ho
      go_wp2_with fail
      refine (hse _ (((Up.refl w).alloc _).alloc _)).mono ?_
      rintro e w' ⟨rfl, hu⟩
      go_wp2_with fail
      go_ret
      exact ⟨ret_bool (by simp), (((Up.refl w).alloc _).alloc _).trans hu⟩
    · have hdo : decide (o1 = o2) = false := decide_eq_false ho
      go_wp2_with fail
      go_ret
      exact ⟨ret_bool (by simp [ht, ho]), (by repeat (first | exact Up.refl _ | apply Up.drewN | apply Up.drew | apply Up.alloc | (refine Up.trans ?_ (by assumption))))⟩
  · go_wp2_with fail
    go_ret
    exact ⟨ret_bool (by simp [ht]), (by repeat (first | exact Up.refl _ | apply Up.drewN | apply Up.drew | apply Up.alloc | (refine Up.trans ?_ (by assumption))))⟩
end Go.Proofs.Ytnjgkgbgmjoceaa
