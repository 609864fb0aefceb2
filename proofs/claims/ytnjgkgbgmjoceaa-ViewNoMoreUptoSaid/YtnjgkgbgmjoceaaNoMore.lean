/-
  The walk of ViewNoMore.
-/
import Derived.Test.YtnjgkgbgmjoceaaTurn
import Derived.Outline
import Derived.Deep.Cut
set_option linter.unusedSimpArgs false
set_option linter.unusedVariables false
namespace Go.Proofs.Ytnjgkgbgmjoceaa
open Go.RowKit Go.ChangeMaps Go.Sort

set_option maxRecDepth 100000 in
set_option maxHeartbeats 4000000 in
theorem noMore_some (w : World) (tick next player radius «show» : Int) (CA SA : Option Addr) (nc cc ns cs : Nat) (cars : List Car) (shots : List Shot)
    (hC : Reads w Car.enc 14 CA nc cars) (hS : Reads w Shot.enc 7 SA ns shots) (hrc : nc ≤ 1073741824) (hrs : ns ≤ 1073741824) (hoc : ∀ c ∈ cars, c.ok) (hos : ∀ c ∈ shots, c.ok)
    (k : Nat) (hfi : cars.findIdx? (fun c => decide (c.player = player)) = some k) :
    Calls Try.prog 3 #[.agg #[.int .u64 tick, .slice CA nc cc, .slice SA ns cs, .int .i64 next], .agg #[.int .i64 player, .int .i64 radius, .int .i64 «show»]] w fun e w' => e = .returned (.bool true) ∧ Below w.heap.size w w' := by
  go_enter Try.func3, Try.ntmps3
  go_wp2_with fail
  refine (alive_any _).mono ?_
  rintro e w1 ⟨rfl, hb1⟩
  have hst1 : w1.heap[w.heap.size]? = some (.cells #[.int .u64 tick, .slice CA nc cc, .slice SA ns cs, .int .i64 next] 26 (0, 0)) := (hb1.block _ (by simp <;> omega)).trans (hk_alloc (heap_alloc_new w _) _)
  have has1 : w1.heap[w.heap.size + 1]? = some (.cells #[.int .i64 player, .int .i64 radius, .int .i64 «show»] 28 (0, 0)) := (hb1.block _ (by simp <;> omega)).trans (alloc_at (by simp) _)
  have hbw1 : Below w.heap.size w w1 := (by repeat (first | exact Below.refl _ _ | refine balloc ?_ _ | refine bdrew ?_ | refine bdrewN ?_ _ | (refine bstep ?_ (by assumption)) | (refine bstep ?_ (Up.below (by assumption)))))
  have s0 : w1.cell? ⟨w.heap.size, 0, none⟩ = some (.int .u64 tick) := hk_cell hst1 0
  have s1 : w1.cell? ⟨w.heap.size, 1, none⟩ = some (.slice CA nc cc) := hk_cell hst1 1
  have s2 : w1.cell? ⟨w.heap.size, 2, none⟩ = some (.slice SA ns cs) := hk_cell hst1 2
  have s3 : w1.cell? ⟨w.heap.size, 3, none⟩ = some (.int .i64 next) := hk_cell hst1 3
  have a0 : w1.cell? ⟨w.heap.size + 1, 0, none⟩ = some (.int .i64 player) := hk_cell has1 0
  have a1 : w1.cell? ⟨w.heap.size + 1, 1, none⟩ = some (.int .i64 radius) := hk_cell has1 1
  have a2 : w1.cell? ⟨w.heap.size + 1, 2, none⟩ = some (.int .i64 «show») := hk_cell has1 2
  have hC1 := hC.below hbw1
  have hS1 := hS.below hbw1
  obtain ⟨own, hk⟩ : ∃ own, cars[k]? = some own := ⟨_, List.getElem?_eq_getElem (List.findIdx?_eq_some_iff_getElem.1 hfi).1⟩
  have hpo : own.player = player := by
    obtain ⟨h1, h2, _⟩ := List.findIdx?_eq_some_iff_getElem.1 hfi
    rw [List.getElem?_eq_getElem h1] at hk
    rw [Option.some.inj hk] at h2
    simpa using h2
  subst hpo
  have hof := of_some w1 tick next own.player radius «show» CA SA nc cc ns cs cars shots hC1 hS1 hrc hrs hoc hos k own hfi hk
  obtain ⟨l, hl⟩ : ∃ l, l = seenOf cars shots own own.player radius «show» := ⟨_, rfl⟩
  rw [← hl] at hof
  have HL := Lib.hid hl
  clear hl
  go_wp2_with fail
  refine hof.mono ?_
  rintro e w2 ⟨vN, rfl, hoN, hb2⟩
  clear hof
  obtain ⟨AN, cN, rfl, hN⟩ := own_reads seen_len hoN
  have hst2 := (hb2.block _ (hk_lt hst1)).trans hst1
  have has2 := (hb2.block _ (hk_lt has1)).trans has1
  clear s0 s1 s2 s3 a0 a1 a2
  have hbw2 : Below w.heap.size w w2 := (by repeat (first | exact Below.refl _ _ | refine balloc ?_ _ | refine bdrew ?_ | refine bdrewN ?_ _ | (refine bstep ?_ (by assumption)) | (refine bstep ?_ (Up.below (by assumption)))))
  have hpl := fun W (hb : Below w.heap.size w W) => own_any W tick next own.player CA SA nc cc ns cs cars (hC.below hb) hrc
  have hst3 := fun o => hk_alloc hst2 o
  have has3 := fun o => hk_alloc has2 o
  have s0 : ∀ o : Obj, (w2.alloc o).cell? ⟨w.heap.size, 0, none⟩ = some (.int .u64 tick) := fun o => hk_cell (hk_alloc hst2 o) 0
  have s1 : ∀ o : Obj, (w2.alloc o).cell? ⟨w.heap.size, 1, none⟩ = some (.slice CA nc cc) := fun o => hk_cell (hk_alloc hst2 o) 1
  have s2 : ∀ o : Obj, (w2.alloc o).cell? ⟨w.heap.size, 2, none⟩ = some (.slice SA ns cs) := fun o => hk_cell (hk_alloc hst2 o) 2
  have s3 : ∀ o : Obj, (w2.alloc o).cell? ⟨w.heap.size, 3, none⟩ = some (.int .i64 next) := fun o => hk_cell (hk_alloc hst2 o) 3
  have a0 : ∀ o : Obj, (w2.alloc o).cell? ⟨w.heap.size + 1, 0, none⟩ = some (.int .i64 own.player) := fun o => hk_cell (hk_alloc has2 o) 0
  go_wp2_with fail
  refine (hpl _ (by repeat (first | exact Below.refl _ _ | refine balloc ?_ _ | refine bdrew ?_ | refine bdrewN ?_ _ | (refine bstep ?_ (by assumption)) | (refine bstep ?_ (Up.below (by assumption)))))).mono ?_
  rintro e w3 ⟨he, hb3⟩
  clear s0 s1 s2 s3 a0 hpl
  obtain ⟨k', own', h1, h2, rfl⟩ := he.resolve_right (fun h => by rw [hfi] at h; cases h.1)
  obtain rfl : k = k' := by rw [hfi] at h1; exact Option.some.inj h1
  obtain rfl : own = own' := by rw [hk] at h2; exact Option.some.inj h2
  clear h1 h2
  simp only [Car.val]
  have hv3 := (hb3.block _ (by simp)).trans (heap_alloc_new w2 (.cells #[.int .u64 tick, .int .i64 own.player, .string own.name, .int .i64 own.x, .int .i64 own.y, .int .i64 own.sx, .int .i64 own.sy, .int .i64 own.heading, .int .i64 own.health, .int .i64 own.energy, .int .i64 own.ammo, .int .i64 own.cool, .int .i64 own.wait, .int .i64 own.spawns, .int .i64 own.score, .slice AN l.length cN] 36))
  have hst4 := (hb3.block _ (by simp; have := hk_lt hst2; omega)).trans (hk_alloc hst2 _)
  have has4 := (hb3.block _ (by simp; have := hk_lt has2; omega)).trans (hk_alloc has2 _)
  have hbw3 : Below w.heap.size w w3 := (by repeat (first | exact Below.refl _ _ | refine balloc ?_ _ | refine bdrew ?_ | refine bdrewN ?_ _ | (refine bstep ?_ (by assumption)) | (refine bstep ?_ (Up.below (by assumption)))))
  have hN3 := (hN.below (Up.below ((by repeat (first | exact Up.refl _ | apply Up.drewN | apply Up.drew | apply Up.alloc | (refine Up.trans ?_ (by assumption)))) : Up w2 (w2.alloc (.cells #[.int .u64 tick, .int .i64 own.player, .string own.name, .int .i64 own.x, .int .i64 own.y, .int .i64 own.sx, .int .i64 own.sy, .int .i64 own.heading, .int .i64 own.health, .int .i64 own.energy, .int .i64 own.ammo, .int .i64 own.cool, .int .i64 own.wait, .int .i64 own.spawns, .int .i64 own.score, .slice AN l.length cN] 36))))).below hb3
  have v0 : ∀ o : Obj, (w3.alloc o).cell? ⟨w2.heap.size, 0, none⟩ = some (.int .u64 tick) := fun o => hk_cell (hk_alloc hv3 o) 0
  have v1 : ∀ o : Obj, (w3.alloc o).cell? ⟨w2.heap.size, 1, none⟩ = some (.int .i64 own.player) := fun o => hk_cell (hk_alloc hv3 o) 1
  have v2 : ∀ o : Obj, (w3.alloc o).cell? ⟨w2.heap.size, 2, none⟩ = some (.string own.name) := fun o => hk_cell (hk_alloc hv3 o) 2
  have v3 : ∀ o : Obj, (w3.alloc o).cell? ⟨w2.heap.size, 3, none⟩ = some (.int .i64 own.x) := fun o => hk_cell (hk_alloc hv3 o) 3
  have v4 : ∀ o : Obj, (w3.alloc o).cell? ⟨w2.heap.size, 4, none⟩ = some (.int .i64 own.y) := fun o => hk_cell (hk_alloc hv3 o) 4
  have v5 : ∀ o : Obj, (w3.alloc o).cell? ⟨w2.heap.size, 5, none⟩ = some (.int .i64 own.sx) := fun o => hk_cell (hk_alloc hv3 o) 5
  have v6 : ∀ o : Obj, (w3.alloc o).cell? ⟨w2.heap.size, 6, none⟩ = some (.int .i64 own.sy) := fun o => hk_cell (hk_alloc hv3 o) 6
  have v7 : ∀ o : Obj, (w3.alloc o).cell? ⟨w2.heap.size, 7, none⟩ = some (.int .i64 own.heading) := fun o => hk_cell (hk_alloc hv3 o) 7
  have v8 : ∀ o : Obj, (w3.alloc o).cell? ⟨w2.heap.size, 8, none⟩ = some (.int .i64 own.health) := fun o => hk_cell (hk_alloc hv3 o) 8
  have v9 : ∀ o : Obj, (w3.alloc o).cell? ⟨w2.heap.size, 9, none⟩ = some (.int .i64 own.energy) := fun o => hk_cell (hk_alloc hv3 o) 9
  have v10 : ∀ o : Obj, (w3.alloc o).cell? ⟨w2.heap.size, 10, none⟩ = some (.int .i64 own.ammo) := fun o => hk_cell (hk_alloc hv3 o) 10
  have v11 : ∀ o : Obj, (w3.alloc o).cell? ⟨w2.heap.size, 11, none⟩ = some (.int .i64 own.cool) := fun o => hk_cell (hk_alloc hv3 o) 11
  have v12 : ∀ o : Obj, (w3.alloc o).cell? ⟨w2.heap.size, 12, none⟩ = some (.int .i64 own.wait) := fun o => hk_cell (hk_alloc hv3 o) 12
  have v13 : ∀ o : Obj, (w3.alloc o).cell? ⟨w2.heap.size, 13, none⟩ = some (.int .i64 own.spawns) := fun o => hk_cell (hk_alloc hv3 o) 13
  have v14 : ∀ o : Obj, (w3.alloc o).cell? ⟨w2.heap.size, 14, none⟩ = some (.int .i64 own.score) := fun o => hk_cell (hk_alloc hv3 o) 14
  have v15 : ∀ o : Obj, (w3.alloc o).cell? ⟨w2.heap.size, 15, none⟩ = some (.slice AN l.length cN) := fun o => hk_cell (hk_alloc hv3 o) 15
  have s0 : ∀ o : Obj, (w3.alloc o).cell? ⟨w.heap.size, 0, none⟩ = some (.int .u64 tick) := fun o => hk_cell (hk_alloc hst4 o) 0
  have s3 : ∀ o : Obj, (w3.alloc o).cell? ⟨w.heap.size, 3, none⟩ = some (.int .i64 next) := fun o => hk_cell (hk_alloc hst4 o) 3
  have hce := fun (W : World) => car_binne own own W
  simp only [Car.val, decide_true] at hce
  have hll : l.length ≤ 32 := by
    have := seenOf_len cars shots own own.player radius «show»
    rw [← HL.out] at this
    unfold showOf at this
    omega
  have hN3b := hN3
  clear hN3
  go_upto_region 12 with (fail)
  generalize wrap64 (next + 5) = nx
  obtain ⟨W0, hW0⟩ : ∃ W0, W0 = w3.alloc (.cells #[.int .i64 own.player, .string own.name, .int .i64 own.x, .int .i64 own.y, .int .i64 own.sx, .int .i64 own.sy, .int .i64 own.heading, .int .i64 own.health, .int .i64 own.energy, .int .i64 own.ammo, .int .i64 own.cool, .int .i64 own.wait, .int .i64 own.spawns, .int .i64 own.score] 33) := ⟨_, rfl⟩
  have hu0 : Up w3 W0 := by rw [hW0]; exact (Up.refl w3).alloc _
  have hc0 : W0.heap[w3.heap.size]? = some (.cells #[.int .i64 own.player, .string own.name, .int .i64 own.x, .int .i64 own.y, .int .i64 own.sx, .int .i64 own.sy, .int .i64 own.heading, .int .i64 own.health, .int .i64 own.energy, .int .i64 own.ammo, .int .i64 own.cool, .int .i64 own.wait, .int .i64 own.spawns, .int .i64 own.score] 33 (0, 0)) := by rw [hW0]; exact heap_alloc_new _ _
  have hs0 : w3.heap.size + 1 = W0.heap.size := by rw [hW0]; simp
  rw [← hW0, hs0]
  clear hs0 hW0 v0 v1 v2 v3 v4 v5 v6 v7 v8 v9 v10 v11 v12 v13 v14 v15 s0 s3 hce
  have hv0 := hk_up hu0 hv3
  have has0 := hk_up hu0 has4
  have hN0 := hN3b.below hu0.below
  have hbw0 : Below w.heap.size w W0 := (by repeat (first | exact Below.refl _ _ | refine balloc ?_ _ | refine bdrew ?_ | refine bdrewN ?_ _ | (refine bstep ?_ (by assumption)) | (refine bstep ?_ (Up.below (by assumption)))))
  have hst0 : ∀ o, (W0.alloc o).heap[W0.heap.size]? = some o := fun o => heap_alloc_new _ _
  go_cut [10] from 14 (fun s w' => s = .int .i64 ((l.length : Int) - 1) ∧ w' = W0.alloc (.cells #[.int .u64 tick, .slice none 0 0, .slice none 0 0, .int .i64 nx] 26))
  case first =>
    have v15 : ∀ o, (W0.alloc o).cell? ⟨w2.heap.size, 15, none⟩ = some (.slice AN l.length cN) := fun o => hk_cell (hk_alloc hv0 o) 15
    go_wp2_with fail
    go_meet
    case rel => exact ⟨rfl, rfl⟩
  case rest =>
  obtain ⟨rfl, rfl⟩ := hcut
  go_wp2_with fail
  go_loopw [10] (fun c wr => ∃ m : Nat, c = .int .i64 ((l.length : Int) - 1 - m) ∧ m ≤ l.length ∧ TurnI W0 tick nx l m wr) (fun c _ => (intOf c + 1).toNat)
  case atStart => exact ⟨0, by simp, by omega, ⟨((Up.refl W0).alloc _).below, _, _, hst0 _, World.ownsRow_nil _ _ _ _, World.ownsRow_nil _ _ _ _⟩⟩
  case round =>
    obtain ⟨m, rfl, hm, hI⟩ := hrel
    obtain ⟨vC, vS, ht, hoC, hoS⟩ := hI.ex
    have hb := hI.below
    clear hI
    have hvr := (hb.block _ (hk_lt hv0)).trans hv0
    have v15 : wr.cell? ⟨w2.heap.size, 15, none⟩ = some (.slice AN l.length cN) := hk_cell hvr 15
    have lnC := turnC_len l m
    have lnS := turnS_len l m
    by_cases hlt : m < l.length
    · obtain ⟨i, hi⟩ : ∃ i : Nat, (l.length : Int) - 1 - m = i := ⟨l.length - 1 - m, by omega⟩
      rw [hi]
      have hil : l.length - 1 - m = i := by omega
      have hile : i < l.length := by omega
      have hi32 : i ≤ 31 := by omega
      obtain ⟨x, hx⟩ : ∃ x, l[i]? = some x := ⟨_, List.getElem?_eq_getElem hile⟩
      have hx2 : l[l.length - 1 - m]? = some x := by rw [hil]; exact hx
      have hC1 := turnC_succ hx2
      have hS1 := turnS_succ hx2
      rw [hil] at hC1 hS1
      obtain ⟨bN, off, rfl, hbl, hcells⟩ := (hN0.below hb).2 (by omega)
      have hd := hcells i x
      have d0 : wr.cell? ⟨bN, off + i * 5, none⟩ = some (.int .i64 x.kind) := hd 0 _ hx rfl
      have d1 : wr.cell? ⟨bN, off + i * 5 + 1, none⟩ = some (.int .i64 x.id) := hd 1 _ hx rfl
      have d2 : wr.cell? ⟨bN, off + i * 5 + 2, none⟩ = some (.int .i64 x.x) := hd 2 _ hx rfl
      have d3 : wr.cell? ⟨bN, off + i * 5 + 3, none⟩ = some (.int .i64 x.y) := hd 3 _ hx rfl
      have d4 : wr.cell? ⟨bN, off + i * 5 + 4, none⟩ = some (.int .i64 x.heading) := hd 4 _ hx rfl
      clear hd hcells hx hx2
      have t1 : ∀ o, (wr.alloc o).cell? ⟨W0.heap.size, 1, none⟩ = some vC := fun o => hk_cell (hk_alloc ht o) 1
      have t2 : ∀ o, (wr.alloc o).cell? ⟨W0.heap.size, 2, none⟩ = some vS := fun o => hk_cell (hk_alloc ht o) 2
      have nbb : ∀ o o' : Obj, W0.heap.size ≤ ((wr.alloc o).alloc o').heap.size := fun o o' => by have := hb.size; simp; omega
      have nb5 : ∀ o : Obj, (wr.alloc o).heap.size = wr.heap.size + 1 := fun o => by simp
      have hlt0 := hk_lt ht
      by_cases hk1 : x.kind = 1
      · rw [if_pos hk1] at hC1 hS1
        rw [List.append_nil] at hS1
        have hlen1 : (turnC l m).length + 1 ≤ 9223372036854775807 := by omega
        have hlen2 : ((turnC l m).length + 1) * 120 ≤ 140737488355328 := by omega
        have HC1 := Lib.hid hC1
        have HS1 := Lib.hid hS1
        clear hC1 hS1
        have HI := Lib.hid hi
        have HIL := Lib.hid hil
        clear hi hil
        go_wp2_with (at_builtin; go_loud (refine wpList_append rfl W0.heap.size (.tmp 82) (.tmp 95) 33 _ 14 120 rfl Try.underlying23 info_car rfl (by omega) vC (turnC l m).length _ [.int .i64 x.id, .string ⟨#[111, 116, 104, 101, 114]⟩, .int .i64 x.x, .int .i64 x.y, .int .i64 9, .int .i64 i, .int .i64 x.heading, .int .i64 i, .int .i64 (-(i : Int)), .int .i64 3, .int .i64 4, .int .i64 0, .int .i64 5, .int .i64 6] rfl (wr.heap.size + 1) rfl (alloc_at (nb5 _) _) rfl (by simp [Value.oneCell']) ((hoC.alloc _).alloc _) (nbb _ _) hlen1 hlen2 ?_; intro gg cap w5 ho5 hg5 hat5; have kp : Kp (fun b => some b = vC.ownBlock) wr w5 := (Kp.alloc _ _).trans ((Kp.alloc _ _).trans (Kp.grown hg5 (fun k hk => hk.symm))); have ht5 := kp.at ht (own_ne_cells hoC ht (by decide)); have e1 : w5.cell? ⟨W0.heap.size, 1, none⟩ = some vC := hk_cell ht5 1; have f1 := hk_free ht5 1))
        have hT := turn_car hb ht hoC hoS kp ho5 HC1.out HS1.out rfl
        have hi' := HI.out
        refine ⟨⟨m + 1, congrArg (Value.int .i64) (by omega), by omega, hT⟩, ?_⟩
        simp [intOf]
        try omega
      · rw [if_neg hk1] at hC1 hS1
        rw [List.append_nil] at hC1
        have hlen1 : (turnS l m).length + 1 ≤ 9223372036854775807 := by omega
        have hlen2 : ((turnS l m).length + 1) * 56 ≤ 140737488355328 := by omega
        have HC1 := Lib.hid hC1
        have HS1 := Lib.hid hS1
        clear hC1 hS1
        have HI := Lib.hid hi
        have HIL := Lib.hid hil
        clear hi hil
        go_wp2_with (at_builtin; go_loud (refine wpList_append rfl W0.heap.size (.tmp 99) (.tmp 109) 45 _ 7 56 rfl Try.underlying24 info_shot rfl (by omega) vS (turnS l m).length _ [.int .i64 x.id, .int .i64 i, .int .i64 x.x, .int .i64 x.y, .int .i64 1, .int .i64 0, .int .i64 (-(i : Int))] rfl (wr.heap.size + 1) rfl (alloc_at (nb5 _) _) rfl (by simp [Value.oneCell']) ((hoS.alloc _).alloc _) (nbb _ _) hlen1 hlen2 ?_; intro gg cap w5 ho5 hg5 hat5; have kp : Kp (fun b => some b = vS.ownBlock) wr w5 := (Kp.alloc _ _).trans ((Kp.alloc _ _).trans (Kp.grown hg5 (fun k hk => hk.symm))); have ht5 := kp.at ht (own_ne_cells hoS ht (by decide)); have e1 : w5.cell? ⟨W0.heap.size, 2, none⟩ = some vS := hk_cell ht5 2; have f1 := hk_free ht5 2))
        have hT := turn_shot hb ht hoC hoS kp ho5 HS1.out HC1.out rfl
        have hi' := HI.out
        refine ⟨⟨m + 1, congrArg (Value.int .i64) (by omega), by omega, hT⟩, ?_⟩
        simp [intOf]
        try omega
    · obtain rfl : m = l.length := by omega
      have t1 : wr.cell? ⟨W0.heap.size, 1, none⟩ = some vC := hk_cell ht 1
      have hm1 : (l.length : Int) - 1 - (l.length : Nat) = -1 := by omega
      rw [hm1]
      clear hm1
      have hcr := (hb.block _ (hk_lt hc0)).trans hc0
      have c0 : wr.cell? ⟨w3.heap.size, 0, none⟩ = some (.int .i64 own.player) := hk_cell hcr 0
      have c1 : wr.cell? ⟨w3.heap.size, 1, none⟩ = some (.string own.name) := hk_cell hcr 1
      have c2 : wr.cell? ⟨w3.heap.size, 2, none⟩ = some (.int .i64 own.x) := hk_cell hcr 2
      have c3 : wr.cell? ⟨w3.heap.size, 3, none⟩ = some (.int .i64 own.y) := hk_cell hcr 3
      have c4 : wr.cell? ⟨w3.heap.size, 4, none⟩ = some (.int .i64 own.sx) := hk_cell hcr 4
      have c5 : wr.cell? ⟨w3.heap.size, 5, none⟩ = some (.int .i64 own.sy) := hk_cell hcr 5
      have c6 : wr.cell? ⟨w3.heap.size, 6, none⟩ = some (.int .i64 own.heading) := hk_cell hcr 6
      have c7 : wr.cell? ⟨w3.heap.size, 7, none⟩ = some (.int .i64 own.health) := hk_cell hcr 7
      have c8 : wr.cell? ⟨w3.heap.size, 8, none⟩ = some (.int .i64 own.energy) := hk_cell hcr 8
      have c9 : wr.cell? ⟨w3.heap.size, 9, none⟩ = some (.int .i64 own.ammo) := hk_cell hcr 9
      have c10 : wr.cell? ⟨w3.heap.size, 10, none⟩ = some (.int .i64 own.cool) := hk_cell hcr 10
      have c11 : wr.cell? ⟨w3.heap.size, 11, none⟩ = some (.int .i64 own.wait) := hk_cell hcr 11
      have c12 : wr.cell? ⟨w3.heap.size, 12, none⟩ = some (.int .i64 own.spawns) := hk_cell hcr 12
      have c13 : wr.cell? ⟨w3.heap.size, 13, none⟩ = some (.int .i64 own.score) := hk_cell hcr 13
      have hlen1 : (turnC l l.length).length + 1 ≤ 9223372036854775807 := by omega
      have hlen2 : ((turnC l l.length).length + 1) * 120 ≤ 140737488355328 := by omega
      have nbb : ∀ o : Obj, W0.heap.size ≤ (wr.alloc o).heap.size := fun o => by have := hb.size; simp; omega
      clear v15
      obtain ⟨AS, cS, rfl, hSr⟩ := own_reads shot_len hoS
      have has2 := (hb.block _ (hk_lt has0)).trans has0
      have hnas : w.heap.size + 1 < W0.heap.size := hk_lt has0
      go_wp2_with (at_builtin; go_loud (refine wpList_append rfl W0.heap.size (.tmp 113) (.tmp 115) 33 _ 14 120 rfl Try.underlying23 info_car rfl (by omega) vC (turnC l l.length).length _ [.int .i64 own.player, .string own.name, .int .i64 own.x, .int .i64 own.y, .int .i64 own.sx, .int .i64 own.sy, .int .i64 own.heading, .int .i64 own.health, .int .i64 own.energy, .int .i64 own.ammo, .int .i64 own.cool, .int .i64 own.wait, .int .i64 own.spawns, .int .i64 own.score] rfl wr.heap.size rfl (heap_alloc_new _ _) rfl (by simp [Value.oneCell']) (hoC.alloc _) (nbb _) hlen1 hlen2 ?_; intro gg cap w5 ho5 hg5 hat5; have kp : Kp (fun b => some b = vC.ownBlock) wr w5 := (Kp.alloc _ _).trans (Kp.grown hg5 (fun k hk => hk.symm)); have ht5 := kp.at ht (own_ne_cells hoC ht (by decide)); have e1 : w5.cell? ⟨W0.heap.size, 1, none⟩ = some vC := hk_cell ht5 1; have f1 := hk_free ht5 1; have g0 : ∀ v, (w5.setCell ⟨W0.heap.size, 1, none⟩ v).cell? ⟨W0.heap.size, 0, none⟩ = some (.int .u64 tick) := fun v => hk_cell (blk_set1 ht5 1 v) 0; have g1 : ∀ v, (w5.setCell ⟨W0.heap.size, 1, none⟩ v).cell? ⟨W0.heap.size, 1, none⟩ = some v := fun v => hk_cell (blk_set1 ht5 1 v) 1; have g2 : ∀ v, (w5.setCell ⟨W0.heap.size, 1, none⟩ v).cell? ⟨W0.heap.size, 2, none⟩ = some (.slice AS (turnS l l.length).length cS) := fun v => hk_cell (blk_set1 ht5 1 v) 2; have g3 : ∀ v, (w5.setCell ⟨W0.heap.size, 1, none⟩ v).cell? ⟨W0.heap.size, 3, none⟩ = some (.int .i64 nx) := fun v => hk_cell (blk_set1 ht5 1 v) 3; have hb6 := fun v => turn_set (i := 1) (v := v) hb kp (fun k h => (hoC.lt k h.symm).1) (Nat.le_refl _); have has6 := fun v => ((hb6 v).block _ hnas).trans has0; have a0 : ∀ v, (w5.setCell ⟨W0.heap.size, 1, none⟩ v).cell? ⟨w.heap.size + 1, 0, none⟩ = some (.int .i64 own.player) := fun v => hk_cell (has6 v) 0; have a1 : ∀ v, (w5.setCell ⟨W0.heap.size, 1, none⟩ v).cell? ⟨w.heap.size + 1, 1, none⟩ = some (.int .i64 radius) := fun v => hk_cell (has6 v) 1; have a2 : ∀ v, (w5.setCell ⟨W0.heap.size, 1, none⟩ v).cell? ⟨w.heap.size + 1, 2, none⟩ = some (.int .i64 «show») := fun v => hk_cell (has6 v) 2))
      have hmem := fun s => @seenOf_mem cars shots own own.player radius «show» s
      have hnm := noMore cars shots own radius «show» l HL.out
      rw [← HL.out] at hmem
      have h2 : ∀ s ∈ l, (s.kind = 1 ∧ s.id ≠ own.player) ∨ (s.kind = 2 ∧ s.heading = 0) := fun s hs => (ents_L cars shots own.player).2 s (hmem s hs).1
      have hlok : ∀ s ∈ l, s.ok := fun s hs => (ents_inv cars shots own.player hoc hos).2 s (hmem s hs).1
      have hook : own.ok := hoc own (List.mem_of_getElem? hk)
      obtain ⟨hf1, hf2⟩ := turn_find l own l.length h2
      have hoC6 : (w5.setCell ⟨W0.heap.size, 1, none⟩ (.slice (some ⟨gg, 0, none⟩) ((turnC l l.length).length + 1) cap)).ownsRow W0.heap.size 33 14 (.slice (some ⟨gg, 0, none⟩) ((turnC l l.length).length + 1) cap) (turnC l l.length ++ [own]).length (flat Car.enc (turnC l l.length ++ [own])) := by
        rw [flat_snoc, List.length_append]
        exact World.ownsRow.kept ho5 (World.grownBy_set w5 W0.heap.size 1 _) (.inr (fun e => own_ne_cells ho5 ht5 (by decide) e.symm))
      have hoS6 := own_kp hoS kp (own_diff hoS hoC (by decide))
      have hoS7 := World.ownsRow.kept hoS6 (World.grownBy_set w5 W0.heap.size 1 (.slice (some ⟨gg, 0, none⟩) ((turnC l l.length).length + 1) cap)) (.inr (fun e => own_ne_cells hoS6 ht5 (by decide) e.symm))
      obtain ⟨A6, c6, e6, hC6⟩ := own_reads car_len hoC6
      obtain ⟨A7, c7, e7, hS7⟩ := own_reads shot_len hoS7
      injection e6 with e6a e6b e6c
      injection e7 with e7a e7b e7c
      subst e6a e7a
      have hof := of_some _ tick nx own.player radius «show» _ _ _ cap _ cS _ _ hC6 hS7 (by simp; omega) (by omega) (turnC_ok hlok hook) (turnS_ok hlok) _ own hf1 hf2
      rw [hnm] at hof
      rw [← e6b] at hof
      refine hof.mono ?_
      rintro e w7 ⟨vM, rfl, hoM, hb7⟩
      clear hof e6b e6c e7b e7c hf1 hf2 g0 g1 g2 g3 a0 a1 a2 e1 f1 c0 c1 c2 c3 c4 c5 c6 c7 c8 c9 c10 c11 c12 c13
      obtain ⟨AM, cM, rfl, hM⟩ := own_reads seen_len hoM
      have hv6 := ((hb6 (.slice (some ⟨gg, 0, none⟩) ((turnC l l.length).length + 1) cap)).block _ (hk_lt hv0)).trans hv0
      have hv7 := (hb7.block _ (hk_lt hv6)).trans hv6
      have hm7 := heap_alloc_new w7 (.cells #[.int .u64 tick, .int .i64 own.player, .string own.name, .int .i64 own.x, .int .i64 own.y, .int .i64 own.sx, .int .i64 own.sy, .int .i64 own.heading, .int .i64 own.health, .int .i64 own.energy, .int .i64 own.ammo, .int .i64 own.cool, .int .i64 own.wait, .int .i64 own.spawns, .int .i64 own.score, .slice AM l.length cM] 36)
      have hv8 := hk_alloc hv7 (.cells #[.int .u64 tick, .int .i64 own.player, .string own.name, .int .i64 own.x, .int .i64 own.y, .int .i64 own.sx, .int .i64 own.sy, .int .i64 own.heading, .int .i64 own.health, .int .i64 own.energy, .int .i64 own.ammo, .int .i64 own.cool, .int .i64 own.wait, .int .i64 own.spawns, .int .i64 own.score, .slice AM l.length cM] 36)
      have hN7 := (hN0.below (hb6 (.slice (some ⟨gg, 0, none⟩) ((turnC l l.length).length + 1) cap))).below hb7
      have heq := fun W (hu : Up w7 W) => viewEqual_any W tick tick own own AN AM l.length cN l.length cM l l (hN7.below hu.below) (hM.below hu.below) (by omega) (by omega)
      simp only [viewCells] at heq
      have HV8 := Lib.hid hv8
      have HM7 := Lib.hid hm7
      have HV7 := Lib.hid hv7
      clear hv8 hm7 hv7
      go_wp2_with (first
        | ((refine wpList_load_row_g (o := ⟨some 132, _, _, _, _, _⟩) ?_ 36 (.tmp 5) rfl w2.heap.size rfl 36 _ (0, 0) _ HV8.out Try.underlying36 rfl (by kernel_rfl) ?_; rfl))
        | ((refine wpList_load_row_g (o := ⟨some 133, _, _, _, _, _⟩) ?_ 36 (.tmp 12) rfl w7.heap.size rfl 36 _ (0, 0) _ HM7.out Try.underlying36 rfl (by kernel_rfl) ?_; rfl)))
      refine (heq _ (by repeat (first | exact Up.refl _ | apply Up.drewN | apply Up.drew | apply Up.alloc | (refine Up.trans ?_ (by assumption))))).mono ?_
      rintro e w8 ⟨rfl, hu8⟩
      simp only [decide_true, Bool.and_self]
      go_wp2_with fail
      go_ret
      refine ⟨rfl, ?_⟩
      exact bstep (balloc (bstep (bstep hbw0 (hb6 _)) hb7) _) hu8.below
end Go.Proofs.Ytnjgkgbgmjoceaa
