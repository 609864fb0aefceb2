/-
  view.Of where the player has no car.
-/
import Derived.Test.YtnjgkgbgmjoceaaOfEnd
set_option linter.unusedSimpArgs false
set_option linter.unusedVariables false
namespace Go.Proofs.Ytnjgkgbgmjoceaa
open Go.RowKit Go.ChangeMaps Go.Sort
attribute [local go_sem] Oper.semAt_some

set_option maxRecDepth 100000 in
set_option maxHeartbeats 4000000 in
theorem of_none (w : World) (tick next player radius «show» : Int) (CA SA : Option Addr) (nc cc ns cs : Nat) (cars : List Car)
    (hC : Reads w Car.enc 14 CA nc cars) (hrc : nc ≤ 1073741824) (hfi : cars.findIdx? (fun c => decide (c.player = player)) = none) :
    Calls Try.prog 7 #[.agg #[.int .u64 tick, .slice CA nc cc, .slice SA ns cs, .int .i64 next], .int .i64 player, .int .i64 radius, .int .i64 «show»] w fun e w' =>
      e = .returned (.tuple #[.agg #[.int .u64 0, .int .i64 0, .string { data := #[] }, .int .i64 0, .int .i64 0, .int .i64 0, .int .i64 0, .int .i64 0, .int .i64 0, .int .i64 0, .int .i64 0, .int .i64 0, .int .i64 0, .int .i64 0, .int .i64 0, .slice none 0 0], .int .i64 210]) ∧ Below w.heap.size w w' := by
  refine callsIn_wide (n := 3) |>.1 ?_
  refine callsIn_of_wp_marks Try.func7 rfl trivial ?_ rfl
  simp only [Try.ntmps7, List.size_toArray, List.length_cons, List.length_nil, Nat.reduceAdd, Nat.reduceSub, Array.replicate_succ, Array.replicate_zero, List.push_toArray, List.append_toArray, List.nil_append, List.cons_append]
  refine wpIn_wide.2 ?_
  go_wp2_with fail
  obtain ⟨w0, hw0⟩ : ∃ w0, w0 = ((w.alloc (.cells #[.int .u64 tick, .slice CA nc cc, .slice SA ns cs, .int .i64 next] 26)).alloc (.cells #[.int .i64 player] 3)).alloc (.cells #[.int .u64 0, .int .i64 0, .string { data := #[] }, .int .i64 0, .int .i64 0, .int .i64 0, .int .i64 0, .int .i64 0, .int .i64 0, .int .i64 0, .int .i64 0, .int .i64 0, .int .i64 0, .int .i64 0, .int .i64 0, .slice none 0 0] 36) := ⟨_, rfl⟩
  have hpl0 : w0.heap[w.heap.size + 1]? = some (.cells #[.int .i64 player] 3 (0, 0)) := by
    rw [hw0]
    exact hk_alloc (alloc_at (by simp) _) _
  have hv0 : w0.heap[w.heap.size + 1 + 1]? = some (.cells #[.int .u64 0, .int .i64 0, .string { data := #[] }, .int .i64 0, .int .i64 0, .int .i64 0, .int .i64 0, .int .i64 0, .int .i64 0, .int .i64 0, .int .i64 0, .int .i64 0, .int .i64 0, .int .i64 0, .int .i64 0, .slice none 0 0] 36 (0, 0)) := by
    rw [hw0]
    exact alloc_at (by simp) _
  have hu0 : Up w w0 := by rw [hw0]; exact (((Up.refl w).alloc _).alloc _).alloc _
  rw [← hw0]
  have HW0 := Lib.hid hw0
  clear hw0
  have hix : Calls Try.prog 19 #[.slice CA nc cc, .func (.func 20) #[] #[.pointer (some ⟨w.heap.size + 1, 0, none⟩)]] w0 fun e w' => e = .returned (.int .i64 (-1)) ∧ Up w0 w' := by
    have := indexFunc_any w0 (w.heap.size + 1) player CA nc cc cars (hC.below hu0.below) (hk_cell hpl0 0) hrc
    rw [hfi] at this
    exact this
  refine hix.mono ?_
  rintro e w1 ⟨rfl, hu1⟩
  have hrcT := hk_up hu1 hv0
  have r0 : w1.cell? ⟨w.heap.size + 1 + 1, 0, none⟩ = some (.int .u64 0) := hk_cell hrcT 0
  have fr0 := hk_free hrcT 0
  have r1 : w1.cell? ⟨w.heap.size + 1 + 1, 1, none⟩ = some (.int .i64 0) := hk_cell hrcT 1
  have fr1 := hk_free hrcT 1
  have r2 : w1.cell? ⟨w.heap.size + 1 + 1, 2, none⟩ = some (.string { data := #[] }) := hk_cell hrcT 2
  have fr2 := hk_free hrcT 2
  have r3 : w1.cell? ⟨w.heap.size + 1 + 1, 3, none⟩ = some (.int .i64 0) := hk_cell hrcT 3
  have fr3 := hk_free hrcT 3
  have r4 : w1.cell? ⟨w.heap.size + 1 + 1, 4, none⟩ = some (.int .i64 0) := hk_cell hrcT 4
  have fr4 := hk_free hrcT 4
  have r5 : w1.cell? ⟨w.heap.size + 1 + 1, 5, none⟩ = some (.int .i64 0) := hk_cell hrcT 5
  have fr5 := hk_free hrcT 5
  have r6 : w1.cell? ⟨w.heap.size + 1 + 1, 6, none⟩ = some (.int .i64 0) := hk_cell hrcT 6
  have fr6 := hk_free hrcT 6
  have r7 : w1.cell? ⟨w.heap.size + 1 + 1, 7, none⟩ = some (.int .i64 0) := hk_cell hrcT 7
  have fr7 := hk_free hrcT 7
  have r8 : w1.cell? ⟨w.heap.size + 1 + 1, 8, none⟩ = some (.int .i64 0) := hk_cell hrcT 8
  have fr8 := hk_free hrcT 8
  have r9 : w1.cell? ⟨w.heap.size + 1 + 1, 9, none⟩ = some (.int .i64 0) := hk_cell hrcT 9
  have fr9 := hk_free hrcT 9
  have r10 : w1.cell? ⟨w.heap.size + 1 + 1, 10, none⟩ = some (.int .i64 0) := hk_cell hrcT 10
  have fr10 := hk_free hrcT 10
  have r11 : w1.cell? ⟨w.heap.size + 1 + 1, 11, none⟩ = some (.int .i64 0) := hk_cell hrcT 11
  have fr11 := hk_free hrcT 11
  have r12 : w1.cell? ⟨w.heap.size + 1 + 1, 12, none⟩ = some (.int .i64 0) := hk_cell hrcT 12
  have fr12 := hk_free hrcT 12
  have r13 : w1.cell? ⟨w.heap.size + 1 + 1, 13, none⟩ = some (.int .i64 0) := hk_cell hrcT 13
  have fr13 := hk_free hrcT 13
  have r14 : w1.cell? ⟨w.heap.size + 1 + 1, 14, none⟩ = some (.int .i64 0) := hk_cell hrcT 14
  have fr14 := hk_free hrcT 14
  have r15 : w1.cell? ⟨w.heap.size + 1 + 1, 15, none⟩ = some (.slice none 0 0) := hk_cell hrcT 15
  have fr15 := hk_free hrcT 15
  go_wp2_with fail
  have hend := of_zero_end (R := fun e w' => e = .returned (.tuple #[.agg #[.int .u64 0, .int .i64 0, .string { data := #[] }, .int .i64 0, .int .i64 0, .int .i64 0, .int .i64 0, .int .i64 0, .int .i64 0, .int .i64 0, .int .i64 0, .int .i64 0, .int .i64 0, .int .i64 0, .int .i64 0, .slice none 0 0], .int .i64 210]) ∧ Below w.heap.size w w') w1 (w.heap.size + 1 + 1) hrcT ?_
  · exact hend _ rfl rfl
  · intro w' hg
    refine ⟨rfl, ?_⟩
    have k1 : Kp (fun k => w.heap.size ≤ k) w1 w' := Kp.grown hg (fun k e => by cases e; omega)
    exact (hu0.trans hu1).below.trans (k1.below (hu0.trans hu1).size (fun k h => h))
end Go.Proofs.Ytnjgkgbgmjoceaa
