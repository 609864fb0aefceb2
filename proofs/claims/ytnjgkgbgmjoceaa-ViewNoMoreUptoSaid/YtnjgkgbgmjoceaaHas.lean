/-
  has: is the thing in the list?
-/
import Derived.Test.YtnjgkgbgmjoceaaEqs
set_option linter.unusedSimpArgs false
set_option linter.unusedVariables false
namespace Go.Proofs.Ytnjgkgbgmjoceaa
open Go.RowKit Go.ChangeMaps Go.Sort

set_option maxRecDepth 100000 in
set_option maxHeartbeats 2000000 in
theorem has_any (w : World) (A : Option Addr) (n c : Nat) (es : List Seen) (x : Seen) (hE : Reads w Seen.enc 5 A n es) (hn : n ≤ 4294967296) :
    Calls Try.prog 11 #[.slice A n c, x.val] w fun e w' => e = .returned (.bool (decide (x ∈ es))) ∧ Up w w' := by
  have heq := fun (a : Seen) (W : World) => seen_binop a x W
  unfold Seen.val at *
  go_enter Try.func11, Try.ntmps11
  go_wp2_with fail
  obtain ⟨w0, hw0⟩ : ∃ w0, w0 = w.alloc (.cells #[.int .i64 x.kind, .int .i64 x.id, .int .i64 x.x, .int .i64 x.y, .int .i64 x.heading] 43) := ⟨_, rfl⟩
  have hb0 : w0.heap[w.heap.size]? = some (.cells #[.int .i64 x.kind, .int .i64 x.id, .int .i64 x.x, .int .i64 x.y, .int .i64 x.heading] 43 (0, 0)) := by rw [hw0]; exact heap_alloc_new w _
  have hu0 : Up w w0 := by rw [hw0]; exact (Up.refl w).alloc _
  rw [← hw0]
  clear hw0
  go_loopw [5] (fun c wr => ∃ k : Nat, c = .int .i64 k ∧ k ≤ n ∧ x ∉ es.take k ∧ Up w0 wr) (fun c _ => n - (intOf c).toNat)
  case atStart => exact ⟨0, by simp, by omega, by simp, Up.refl _⟩
  case round =>
    obtain ⟨k, rfl, hk, hne, hu⟩ := hrel
    by_cases hkl : k < n
    · obtain ⟨y, hy⟩ : ∃ y, es[k]? = some y := ⟨_, List.getElem?_eq_getElem (by rw [hE.1]; exact hkl)⟩
      obtain ⟨bC, off, rfl, hbl, hcells⟩ := ((hE.below hu0.below).below hu.below).2 (by omega)
      have hd := hcells k y
      have d0 : wr.cell? ⟨bC, off + k * 5, none⟩ = some (.int .i64 y.kind) := hd 0 _ hy rfl
      have d1 : wr.cell? ⟨bC, off + k * 5 + 1, none⟩ = some (.int .i64 y.id) := hd 1 _ hy rfl
      have d2 : wr.cell? ⟨bC, off + k * 5 + 2, none⟩ = some (.int .i64 y.x) := hd 2 _ hy rfl
      have d3 : wr.cell? ⟨bC, off + k * 5 + 3, none⟩ = some (.int .i64 y.y) := hd 3 _ hy rfl
      have d4 : wr.cell? ⟨bC, off + k * 5 + 4, none⟩ = some (.int .i64 y.heading) := hd 4 _ hy rfl
      have hbr := hk_up hu hb0
      have x0 : wr.cell? ⟨w.heap.size, 0, none⟩ = some (.int .i64 x.kind) := hk_cell hbr 0
      have x1 : wr.cell? ⟨w.heap.size, 1, none⟩ = some (.int .i64 x.id) := hk_cell hbr 1
      have x2 : wr.cell? ⟨w.heap.size, 2, none⟩ = some (.int .i64 x.x) := hk_cell hbr 2
      have x3 : wr.cell? ⟨w.heap.size, 3, none⟩ = some (.int .i64 x.y) := hk_cell hbr 3
      have x4 : wr.cell? ⟨w.heap.size, 4, none⟩ = some (.int .i64 x.heading) := hk_cell hbr 4
      have hq := heq y wr
      clear hd hcells
      have hmem : x ∈ es.take (k + 1) ↔ x ∈ es.take k ∨ x = y := by
        have hkl2 : k < es.length := by rw [hE.1]; exact hkl
        rw [List.take_succ_eq_append_getElem hkl2]
        rw [List.getElem?_eq_getElem hkl2] at hy
        rw [Option.some.inj hy]
        simp
      go_wp2_with fail
      go_region_held3 (fun w' => w'.cell? ⟨bC, off + k * 5, none⟩ = some (.int .i64 y.kind) ∧ w'.cell? ⟨bC, off + k * 5 + 1, none⟩ = some (.int .i64 y.id) ∧ w'.cell? ⟨bC, off + k * 5 + 2, none⟩ = some (.int .i64 y.x) ∧ w'.cell? ⟨bC, off + k * 5 + 3, none⟩ = some (.int .i64 y.y) ∧ w'.cell? ⟨bC, off + k * 5 + 4, none⟩ = some (.int .i64 y.heading) ∧ w'.cell? ⟨w.heap.size, 0, none⟩ = some (.int .i64 x.kind) ∧ w'.cell? ⟨w.heap.size, 1, none⟩ = some (.int .i64 x.id) ∧ w'.cell? ⟨w.heap.size, 2, none⟩ = some (.int .i64 x.x) ∧ w'.cell? ⟨w.heap.size, 3, none⟩ = some (.int .i64 x.y) ∧ w'.cell? ⟨w.heap.size, 4, none⟩ = some (.int .i64 x.heading)) (first | (((try dsimp only); (repeat' apply And.intro) <;> (first | assumption | omega | ((try simp only [World.size_alloc, World.size_drew]); omega) | ((try simp only [World.size_alloc, World.size_drew] at hz ⊢); omega) | ((simp only [World.size_alloc, World.size_drew] at *); omega) | (rw [hc _ _ (by (try simp only [World.size_alloc, World.size_drew]); omega)]; go_simp) | ((repeat (first | assumption | (refine hk_alloc ?_ _) | (refine hk_set ?_ (by first | assumption | omega) _) | (refine hk_up (by assumption) ?_))); done) | go_keep))))
        (first | fail)
      by_cases hxy : y = x
      · have hdq : decide (y = x) = true := decide_eq_true hxy
        go_wp2_with fail
        go_ret
        refine ⟨ret_bool ?_, hu0.trans (hu.drew)⟩
        have : x ∈ es := by rw [← hxy]; exact List.mem_of_getElem? hy
        simp [this]
      · have hdq : decide (y = x) = false := decide_eq_false hxy
        go_wp2_with fail
        refine ⟨⟨k + 1, by go_num, by omega, fun h => ?_, hu.drew⟩, by simp [intOf]; omega⟩
        rcases hmem.1 h with h | h
        · exact hne h
        · exact hxy h.symm
    · obtain rfl : n = k := by omega
      rw [← hE.1, List.take_length] at hne
      go_wp2_with fail
      go_ret
      refine ⟨ret_bool (by simp [hne]), hu0.trans hu⟩
end Go.Proofs.Ytnjgkgbgmjoceaa
