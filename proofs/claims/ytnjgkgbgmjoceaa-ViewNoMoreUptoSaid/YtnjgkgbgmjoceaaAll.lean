/-
  view.All.
-/
import Derived.Test.YtnjgkgbgmjoceaaAllParts
set_option linter.unusedSimpArgs false
set_option linter.unusedVariables false
namespace Go.Proofs.Ytnjgkgbgmjoceaa
open Go.RowKit Go.ChangeMaps Go.Sort

set_option maxRecDepth 100000 in
set_option maxHeartbeats 4000000 in
theorem all_any (w : World) (tick next radius «show» : Int) (CA SA : Option Addr) (nc cc ns cs : Nat) (cars : List Car) (shots : List Shot)
    (hC : Reads w Car.enc 14 CA nc cars) (hS : Reads w Shot.enc 7 SA ns shots) (hrc : nc ≤ 1073741824) (hrs : ns ≤ 1073741824) (hoc : ∀ c ∈ cars, c.ok) (hos : ∀ c ∈ shots, c.ok) :
    Calls Try.prog 12 #[.agg #[.int .u64 tick, .slice CA nc cc, .slice SA ns cs, .int .i64 next], .int .i64 radius, .int .i64 «show»] w fun e w' => ∃ v vs, e = .returned v ∧ vs.map (·.1) = (playersOf cars).map (carOf cars) ∧ AllI w tick (fun o => seenOf cars shots o o.player radius «show») vs v w' := by
  go_enter Try.func12, Try.ntmps12
  go_wp2_with fail
  obtain ⟨w0, hw0⟩ : ∃ w0, w0 = w.alloc (.cells #[.int .u64 tick, .slice CA nc cc, .slice SA ns cs, .int .i64 next] 26) := ⟨_, rfl⟩
  have hst0 : w0.heap[w.heap.size]? = some (.cells #[.int .u64 tick, .slice CA nc cc, .slice SA ns cs, .int .i64 next] 26 (0, 0)) := by rw [hw0]; exact heap_alloc_new w _
  have hb0 : Below w.heap.size w w0 := by rw [hw0]; exact ((Up.refl w).alloc _).below
  rw [← hw0]
  clear hw0
  go_loopw [7, 18] (fun v c wr => ∃ k : Nat, c = .int .i64 k ∧ k ≤ nc ∧ Below w.heap.size w wr ∧ wr.heap[w.heap.size]? = some (.cells #[.int .u64 tick, .slice CA nc cc, .slice SA ns cs, .int .i64 next] 26 (0, 0)) ∧ wr.ownsRow w.heap.size 3 1 v k (((cars.map (·.player)).take k).map cI)) (fun _ c _ => nc - (intOf c).toNat)
  case atStart => exact ⟨0, by simp, by omega, hb0, hst0, World.ownsRow_nil _ _ _ _⟩
  case round =>
    obtain ⟨k, rfl, hk, hb, hst, ho⟩ := hrel
    have lst := hk_lt hst
    have c1 : wr.cell? ⟨w.heap.size, 1, none⟩ = some (.slice CA nc cc) := hk_cell hst 1
    by_cases hlt : k < nc
    · obtain ⟨c, hc⟩ : ∃ c, cars[k]? = some c := ⟨_, List.getElem?_eq_getElem (by rw [hC.1]; exact hlt)⟩
      obtain ⟨bC, off, hCA, hbl, hcells⟩ := (hC.below hb).2 (by omega)
      have hd := hcells k c
      have d0 : wr.cell? ⟨bC, off + k * 14, none⟩ = some (.int .i64 c.player) := hd 0 _ hc rfl
      have d1 : wr.cell? ⟨bC, off + k * 14 + 1, none⟩ = some (.string c.name) := hd 1 _ hc rfl
      have d2 : wr.cell? ⟨bC, off + k * 14 + 2, none⟩ = some (.int .i64 c.x) := hd 2 _ hc rfl
      have d3 : wr.cell? ⟨bC, off + k * 14 + 3, none⟩ = some (.int .i64 c.y) := hd 3 _ hc rfl
      have d4 : wr.cell? ⟨bC, off + k * 14 + 4, none⟩ = some (.int .i64 c.sx) := hd 4 _ hc rfl
      have d5 : wr.cell? ⟨bC, off + k * 14 + 5, none⟩ = some (.int .i64 c.sy) := hd 5 _ hc rfl
      have d6 : wr.cell? ⟨bC, off + k * 14 + 6, none⟩ = some (.int .i64 c.heading) := hd 6 _ hc rfl
      have d7 : wr.cell? ⟨bC, off + k * 14 + 7, none⟩ = some (.int .i64 c.health) := hd 7 _ hc rfl
      have d8 : wr.cell? ⟨bC, off + k * 14 + 8, none⟩ = some (.int .i64 c.energy) := hd 8 _ hc rfl
      have d9 : wr.cell? ⟨bC, off + k * 14 + 9, none⟩ = some (.int .i64 c.ammo) := hd 9 _ hc rfl
      have d10 : wr.cell? ⟨bC, off + k * 14 + 10, none⟩ = some (.int .i64 c.cool) := hd 10 _ hc rfl
      have d11 : wr.cell? ⟨bC, off + k * 14 + 11, none⟩ = some (.int .i64 c.wait) := hd 11 _ hc rfl
      have d12 : wr.cell? ⟨bC, off + k * 14 + 12, none⟩ = some (.int .i64 c.spawns) := hd 12 _ hc rfl
      have d13 : wr.cell? ⟨bC, off + k * 14 + 13, none⟩ = some (.int .i64 c.score) := hd 13 _ hc rfl
      clear hd hcells
      subst hCA
      have htk : (cars.map (·.player)).take (k + 1) = (cars.map (·.player)).take k ++ [c.player] := by
        have hl : k < (cars.map (·.player)).length := by rw [List.length_map, hC.1]; exact hlt
        have h1 : (cars.map (·.player))[k]? = some c.player := by rw [List.getElem?_map, hc]; rfl
        rw [List.take_succ_eq_append_getElem hl]
        rw [List.getElem?_eq_getElem hl] at h1
        rw [Option.some.inj h1]
      have nbb : w.heap.size ≤ wr.heap.size := by omega
      have hlen1 : k + 1 ≤ 9223372036854775807 := by omega
      have hlen2 : (k + 1) * 8 ≤ 140737488355328 := by omega
      have nb4 : ∀ o o' : Obj, w.heap.size ≤ ((wr.alloc o).alloc o').heap.size := fun o o' => by simp; omega
      have nb5 : ∀ o : Obj, (wr.alloc o).heap.size = wr.heap.size + 1 := fun o => by simp
      go_wp2_with (first
        | (at_builtin; go_loud (refine wpList_append rfl w.heap.size (.tmp 22) (.tmp 25) 3 (.int .i64 0) 1 8 rfl Try.underlying78 info_int rfl (by omega) u7 k _ [.int .i64 c.player] rfl (wr.heap.size + 1) rfl (alloc_at (nb5 _) _) rfl (by simp [Value.oneCell']) ((ho.alloc _).alloc _) (nb4 _ _) hlen1 hlen2 ?_; intro gg cap w3 ho3 hg3 hat3)))
      have kp : Kp (fun b => some b = u7.ownBlock) wr w3 := (Kp.alloc _ _).trans ((Kp.alloc _ _).trans (Kp.grown hg3 (fun k hk => hk.symm)))
      refine ⟨⟨k + 1, by go_num, by omega, hb.trans (kp.below nbb (fun b e => (ho.lt b e.symm).1)), kp.at hst (own_ne_cells ho hst (by decide)), ?_⟩, by simp [intOf]; omega⟩
      rw [htk, List.map_append]
      exact ho3
    · obtain rfl : nc = k := by omega
      have hfull : (cars.map (·.player)).take nc = cars.map (·.player) := List.take_of_length_le (by rw [List.length_map, hC.1]; exact Nat.le_refl _)
      rw [hfull] at ho
      have hlenp : (cars.map (·.player)).length = nc := by rw [List.length_map, hC.1]
      rw [← hlenp] at ho
      have hsrt := sortI_any wr u7 w.heap.size (cars.map (·.player)) ho (by rw [hlenp]; omega)
      go_wp2_with fail
      refine hsrt.mono ?_
      rintro e wS ⟨rfl, hoS, hgS⟩
      have hstS := (hgS.block _ lst (own_ne_cells ho hst (by decide))).trans hst
      rw [← sortedL_length] at hoS
      have hcmp := compactI_any wS u7 w.heap.size (sortedL (cars.map (·.player))) hoS (by rw [sortedL_length, hlenp]; omega)
      have hbS : Below w.heap.size w wS := hb.trans ((Kp.grown (S := fun b => some b = u7.ownBlock) hgS (fun k hk => hk.symm)).below hb.size (fun b e => (ho.lt b e.symm).1))
      have hPl := playersOf_length cars
      have hPm := fun p => @playersOf_car cars p
      unfold playersOf at hPl hPm
      have hPS0 : playersOf cars = Lib.compact (sortedL (cars.map (·.player))) := rfl
      generalize Lib.compact (sortedL (cars.map (·.player))) = PS at *
      have HPS := Lib.hid hPS0
      clear hPS0
      go_wp2_with fail
      refine hcmp.mono ?_
      rintro e wK ⟨vP, rfl, hoK, hgK⟩
      have hstK := (hgK.block _ (hk_lt hstS) (own_ne_cells hoS hstS (by decide))).trans hstS
      have hbK : Below w.heap.size w wK := hbS.trans ((Kp.grown (S := fun b => some b = u7.ownBlock) hgK (fun k hk => hk.symm)).below hbS.size (fun b e => (hoS.lt b e.symm).1))
      rw [← flat_int] at hoK
      obtain ⟨AP, cP, rfl, hP⟩ := own_blk int_len hoK
      go_wp2_with fail
      go_loopw [10, 33] (fun v c wr => ∃ (k : Nat) (vs : List (Car × Value)), c = .int .i64 k ∧ k ≤ PS.length ∧ vs.map (·.1) = (PS.take k).map (carOf cars) ∧ wr.heap[w.heap.size]? = some (.cells #[.int .u64 tick, .slice CA nc cc, .slice SA ns cs, .int .i64 next] 26 (0, 0)) ∧ AllI w tick (fun o => seenOf cars shots o o.player radius «show») vs v wr ∧ ∀ g cur, AP = some ⟨g, 0, none⟩ → wK.heap[g]? = some (.cells cur 3 (0, 0)) → wr.heap[g]? = some (.cells cur 3 (0, 0))) (fun _ c _ => PS.length - (intOf c).toNat)
      case atStart => exact ⟨0, [], by simp, by omega, by simp, hstK, ⟨hbK, World.ownsRow_nil _ _ _ _, by simp, .nil⟩, fun _ _ _ h => h⟩
      case round =>
        obtain ⟨k2, vs, rfl, hk2, hvs, hst2, hI, hids⟩ := hrel
        have hvl : vs.length = k2 := by
          have := congrArg List.length hvs
          simpa [List.length_take, Nat.min_eq_left hk2] using this
        by_cases hlt2 : k2 < PS.length
        · obtain ⟨gP, curP, rfl, _, _, hgP, hcP⟩ := hP (by omega)
          obtain ⟨kk, hfi, hkk, hpl⟩ := car_found (hPm PS[k2] (List.getElem_mem hlt2))
          have hpt : PS.take (k2 + 1) = PS.take k2 ++ [PS[k2]] := List.take_succ_eq_append_getElem hlt2
          have hpc := hcP k2 PS[k2] 0 (cI PS[k2]) (List.getElem?_eq_getElem hlt2) rfl
          generalize PS[k2] = p at *
          obtain ⟨own, hown⟩ : ∃ own, own = carOf cars p := ⟨_, rfl⟩
          rw [← hown] at hkk hpl
          have HOWN := Lib.hid hown
          clear hown
          subst hpl
          have kc : wr.cell? ⟨gP, k2, none⟩ = some (.int .i64 own.player) := by
            have := hk_cell (hids gP curP rfl hgP) k2
            rw [this]
            simpa [cI] using hpc
          have s0 : wr.cell? ⟨w.heap.size, 0, none⟩ = some (.int .u64 tick) := hk_cell hst2 0
          have s1 : wr.cell? ⟨w.heap.size, 1, none⟩ = some (.slice CA nc cc) := hk_cell hst2 1
          have s2 : wr.cell? ⟨w.heap.size, 2, none⟩ = some (.slice SA ns cs) := hk_cell hst2 2
          have s3 : wr.cell? ⟨w.heap.size, 3, none⟩ = some (.int .i64 next) := hk_cell hst2 3
          have hof := of_some wr tick next own.player radius «show» CA SA nc cc ns cs cars shots (hC.below hI.below) (hS.below hI.below) hrc hrs hoc hos kk own hfi hkk
          clear hpc hcP hfi hkk
          go_wp2_with fail
          refine hof.mono ?_
          rintro e wO ⟨vN, rfl, hoN, hbN⟩
          obtain ⟨AN, cN, rfl, -⟩ := own_blk seen_len hoN
          have hbO : Below w.heap.size w wO := hI.below.trans (hbN.mono hI.below.size)
          have hrowO := own_kp hI.row (Kp.of_below hbN) (fun g hg => by have := (hI.row.lt g hg).2; omega)
          have nbb : ∀ o o' : Obj, w.heap.size ≤ ((wO.alloc o).alloc o').heap.size := fun o o' => by have := hbO.size; simp; omega
          have nb5 : ∀ o : Obj, (wO.alloc o).heap.size = wO.heap.size + 1 := fun o => by simp
          have hlen1 : vs.length + 1 ≤ 9223372036854775807 := by have := hC.1; omega
          have hlen2 : (vs.length + 1) * 152 ≤ 140737488355328 := by have := hC.1; omega
          go_wp2_with (at_builtin; go_loud (refine wpList_append rfl w.heap.size (.tmp 45) (.tmp 47) 36 _ 16 152 rfl Try.underlying50 info_view rfl (by omega) u10 vs.length _ [.int .u64 tick, .int .i64 own.player, .string own.name, .int .i64 own.x, .int .i64 own.y, .int .i64 own.sx, .int .i64 own.sy, .int .i64 own.heading, .int .i64 own.health, .int .i64 own.energy, .int .i64 own.ammo, .int .i64 own.cool, .int .i64 own.wait, .int .i64 own.spawns, .int .i64 own.score, .slice AN (seenOf cars shots own own.player radius «show»).length cN] rfl (wO.heap.size + 1) rfl (alloc_at (nb5 _) _) rfl (by simp [Value.oneCell']) ((hrowO.alloc _).alloc _) (nbb _ _) hlen1 hlen2 ?_; intro gg cap w3 ho3 hg3 hat3))
          have kp : Kp (fun b => some b = u10.ownBlock) wO w3 := (Kp.alloc _ _).trans ((Kp.alloc _ _).trans (Kp.grown hg3 (fun k hk => hk.symm)))
          have hstO := (hbN.block _ (hk_lt hst2)).trans hst2
          have hI3 := hI.snoc (own := own) hoN hbN kp ho3
          refine ⟨⟨k2 + 1, vs ++ [(own, .slice AN (seenOf cars shots own own.player radius «show»).length cN)], by go_num, by omega, ?_, kp.at hstO (own_ne_cells hrowO hstO (by decide)), by have h := hI3; rw [hvl] at h; exact h, ?_⟩, by simp [intOf]; omega⟩
          · rw [hpt, List.map_append, List.map_append, hvs]
            simp [← HOWN.out]
          · intro g cur hg1 hg2
            have h1 := (hbN.block g (hk_lt (hids g cur hg1 hg2))).trans (hids g cur hg1 hg2)
            exact kp.at h1 (own_ne_cells hrowO h1 (by decide))
        · have hke : PS.length = k2 := by omega
          subst hke
          rw [List.take_length] at hvs
          go_wp2_with fail
          go_ret
          exact ⟨_, vs, rfl, by rw [HPS.out]; exact hvs, hI⟩
end Go.Proofs.Ytnjgkgbgmjoceaa
