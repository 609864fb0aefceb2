/-
  view.Of.
-/
import Derived.Test.YtnjgkgbgmjoceaaOfEnd
set_option linter.unusedSimpArgs false
set_option linter.unusedVariables false
namespace Go.Proofs.Ytnjgkgbgmjoceaa
open Go.RowKit Go.ChangeMaps Go.Sort
attribute [local go_sem] Oper.semAt_some

theorem near_seq_up (w : World) (A : Option Addr) (n c : Nat) (ax ay r : Int) :
    Calls Try.prog 21 #[.slice A n c, .agg #[.int .i64 ax, .int .i64 ay], .int .i64 r] w fun e w' => e = .returned (.func (.func 33) #[] #[.pointer (some ⟨w.heap.size, 0, none⟩), .pointer (some ⟨w.heap.size + 1, 0, none⟩), .pointer (some ⟨w.heap.size + 1 + 1, 0, none⟩)]) ∧
      Up w w' ∧ w'.heap[w.heap.size]? = some (.cells #[.slice A n c] 34 (0, 0)) ∧ w'.heap[w.heap.size + 1]? = some (.cells #[.int .i64 ax, .int .i64 ay] 31 (0, 0)) ∧ w'.heap[w.heap.size + 1 + 1]? = some (.cells #[.int .i64 r] 2 (0, 0)) := by
  refine (near_seq_any w A n c ax ay r).mono ?_
  rintro e w' ⟨he, rfl⟩
  exact ⟨he, (((Up.refl w).alloc _).alloc _).alloc _, hk_alloc (hk_alloc (heap_alloc_new w _) _) _, hk_alloc (alloc_at (by simp) _) _, alloc_at (by simp) _⟩
set_option maxRecDepth 100000 in
set_option maxHeartbeats 4000000 in
theorem of_some (w : World) (tick next player radius «show» : Int) (CA SA : Option Addr) (nc cc ns cs : Nat) (cars : List Car) (shots : List Shot)
    (hC : Reads w Car.enc 14 CA nc cars) (hS : Reads w Shot.enc 7 SA ns shots) (hrc : nc ≤ 1073741824) (hrs : ns ≤ 1073741824) (hoc : ∀ c ∈ cars, c.ok) (hos : ∀ c ∈ shots, c.ok)
    (k : Nat) (own : Car) (hfi : cars.findIdx? (fun c => decide (c.player = player)) = some k) (hk : cars[k]? = some own) :
    Calls Try.prog 7 #[.agg #[.int .u64 tick, .slice CA nc cc, .slice SA ns cs, .int .i64 next], .int .i64 player, .int .i64 radius, .int .i64 «show»] w fun e w' => ∃ v,
      e = .returned (.tuple #[.agg #[.int .u64 tick, .int .i64 own.player, .string own.name, .int .i64 own.x, .int .i64 own.y, .int .i64 own.sx, .int .i64 own.sy, .int .i64 own.heading, .int .i64 own.health, .int .i64 own.energy, .int .i64 own.ammo, .int .i64 own.cool, .int .i64 own.wait, .int .i64 own.spawns, .int .i64 own.score, v], .int .i64 0]) ∧
      w'.ownsRow w.heap.size 43 5 v (seenOf cars shots own player radius «show»).length (flat Seen.enc (seenOf cars shots own player radius «show»)) ∧ Below w.heap.size w w' := by
  refine callsIn_wide (n := 3) |>.1 ?_
  refine callsIn_of_wp_marks Try.func7 rfl trivial ?_ rfl
  simp only [Try.ntmps7, List.size_toArray, List.length_cons, List.length_nil, Nat.reduceAdd, Nat.reduceSub, Array.replicate_succ, Array.replicate_zero, List.push_toArray, List.append_toArray, List.nil_append, List.cons_append]
  refine wpIn_wide.2 ?_
  go_wp2_with fail
  obtain ⟨w0, hw0⟩ : ∃ w0, w0 = ((w.alloc (.cells #[.int .u64 tick, .slice CA nc cc, .slice SA ns cs, .int .i64 next] 26)).alloc (.cells #[.int .i64 player] 3)).alloc (.cells #[.int .u64 0, .int .i64 0, .string { data := #[] }, .int .i64 0, .int .i64 0, .int .i64 0, .int .i64 0, .int .i64 0, .int .i64 0, .int .i64 0, .int .i64 0, .int .i64 0, .int .i64 0, .int .i64 0, .int .i64 0, .slice none 0 0] 36) := ⟨_, rfl⟩
  have hst0 : w0.heap[w.heap.size]? = some (.cells #[.int .u64 tick, .slice CA nc cc, .slice SA ns cs, .int .i64 next] 26 (0, 0)) := by rw [hw0]; exact hk_alloc (hk_alloc (heap_alloc_new w _) _) _
  have hpl0 : w0.heap[w.heap.size + 1]? = some (.cells #[.int .i64 player] 3 (0, 0)) := by
    rw [hw0]
    exact hk_alloc (alloc_at (by simp) _) _
  have hv0 : w0.heap[w.heap.size + 1 + 1]? = some (.cells #[.int .u64 0, .int .i64 0, .string { data := #[] }, .int .i64 0, .int .i64 0, .int .i64 0, .int .i64 0, .int .i64 0, .int .i64 0, .int .i64 0, .int .i64 0, .int .i64 0, .int .i64 0, .int .i64 0, .int .i64 0, .slice none 0 0] 36 (0, 0)) := by
    rw [hw0]
    exact alloc_at (by simp) _
  have hu0 : Up w w0 := by rw [hw0]; exact (((Up.refl w).alloc _).alloc _).alloc _
  rw [← hw0]
  have HW0 := Lib.hid hw0
  clear hw0
  have hix : Calls Try.prog 19 #[.slice CA nc cc, .func (.func 20) #[] #[.pointer (some ⟨w.heap.size + 1, 0, none⟩)]] w0 fun e w' => e = .returned (.int .i64 (k : Int)) ∧ Up w0 w' := by
    have := indexFunc_any w0 (w.heap.size + 1) player CA nc cc cars (hC.below hu0.below) (hk_cell hpl0 0) hrc
    rw [hfi] at this
    exact this
  refine hix.mono ?_
  rintro e w1 ⟨rfl, hu1⟩
  have hst1 := hk_up hu1 hst0
  have hpl1 := hk_up hu1 hpl0
  have hv1 := hk_up hu1 hv0
  have c0 := hk_cell hst1 0
  have c1 := hk_cell hst1 1
  have c2 := hk_cell hst1 2
  have c3 := hk_cell hst1 3
  have c4 := hk_cell hpl1 0
  obtain ⟨hkl, hkp⟩ : k < nc ∧ own.player = player := by
    obtain ⟨h1, h2, _⟩ := List.findIdx?_eq_some_iff_getElem.1 hfi
    rw [List.getElem?_eq_getElem h1] at hk
    rw [Option.some.inj hk] at h2
    exact ⟨by rw [← hC.1]; exact h1, by simpa using h2⟩
  subst hkp
  obtain ⟨bC, off, rfl, hbl, hcells⟩ := ((hC.below hu0.below).below hu1.below).2 (by omega)
  have hd := hcells k own
  have d0 : w1.cell? ⟨bC, off + k * 14, none⟩ = some (.int .i64 own.player) := hd 0 _ hk rfl
  have d1 : w1.cell? ⟨bC, off + k * 14 + 1, none⟩ = some (.string own.name) := hd 1 _ hk rfl
  have d2 : w1.cell? ⟨bC, off + k * 14 + 2, none⟩ = some (.int .i64 own.x) := hd 2 _ hk rfl
  have d3 : w1.cell? ⟨bC, off + k * 14 + 3, none⟩ = some (.int .i64 own.y) := hd 3 _ hk rfl
  have d4 : w1.cell? ⟨bC, off + k * 14 + 4, none⟩ = some (.int .i64 own.sx) := hd 4 _ hk rfl
  have d5 : w1.cell? ⟨bC, off + k * 14 + 5, none⟩ = some (.int .i64 own.sy) := hd 5 _ hk rfl
  have d6 : w1.cell? ⟨bC, off + k * 14 + 6, none⟩ = some (.int .i64 own.heading) := hd 6 _ hk rfl
  have d7 : w1.cell? ⟨bC, off + k * 14 + 7, none⟩ = some (.int .i64 own.health) := hd 7 _ hk rfl
  have d8 : w1.cell? ⟨bC, off + k * 14 + 8, none⟩ = some (.int .i64 own.energy) := hd 8 _ hk rfl
  have d9 : w1.cell? ⟨bC, off + k * 14 + 9, none⟩ = some (.int .i64 own.ammo) := hd 9 _ hk rfl
  have d10 : w1.cell? ⟨bC, off + k * 14 + 10, none⟩ = some (.int .i64 own.cool) := hd 10 _ hk rfl
  have d11 : w1.cell? ⟨bC, off + k * 14 + 11, none⟩ = some (.int .i64 own.wait) := hd 11 _ hk rfl
  have d12 : w1.cell? ⟨bC, off + k * 14 + 12, none⟩ = some (.int .i64 own.spawns) := hd 12 _ hk rfl
  have d13 : w1.cell? ⟨bC, off + k * 14 + 13, none⟩ = some (.int .i64 own.score) := hd 13 _ hk rfl
  clear hd hcells hix hst0 hpl0 hv0
  have ls1 := hk_lt hst1
  go_wp2_with fail
  go_region_held3 (fun w' => w1.heap.size ≤ w'.heap.size ∧ w'.cell? ⟨w.heap.size, 0, none⟩ = some (.int .u64 tick) ∧ w'.cell? ⟨w.heap.size, 1, none⟩ = some (.slice (some ⟨bC, off, none⟩) nc cc) ∧ w'.cell? ⟨bC, off + k * 14, none⟩ = some (.int .i64 own.player) ∧ w'.cell? ⟨bC, off + k * 14 + 1, none⟩ = some (.string own.name) ∧ w'.cell? ⟨bC, off + k * 14 + 2, none⟩ = some (.int .i64 own.x) ∧ w'.cell? ⟨bC, off + k * 14 + 3, none⟩ = some (.int .i64 own.y) ∧ w'.cell? ⟨bC, off + k * 14 + 4, none⟩ = some (.int .i64 own.sx) ∧ w'.cell? ⟨bC, off + k * 14 + 5, none⟩ = some (.int .i64 own.sy) ∧ w'.cell? ⟨bC, off + k * 14 + 6, none⟩ = some (.int .i64 own.heading) ∧ w'.cell? ⟨bC, off + k * 14 + 7, none⟩ = some (.int .i64 own.health) ∧ w'.cell? ⟨bC, off + k * 14 + 8, none⟩ = some (.int .i64 own.energy) ∧ w'.cell? ⟨bC, off + k * 14 + 9, none⟩ = some (.int .i64 own.ammo) ∧ w'.cell? ⟨bC, off + k * 14 + 10, none⟩ = some (.int .i64 own.cool) ∧ w'.cell? ⟨bC, off + k * 14 + 11, none⟩ = some (.int .i64 own.wait) ∧ w'.cell? ⟨bC, off + k * 14 + 12, none⟩ = some (.int .i64 own.spawns) ∧ w'.cell? ⟨bC, off + k * 14 + 13, none⟩ = some (.int .i64 own.score)) (first | (((try dsimp only); (repeat' apply And.intro) <;> (first | assumption | omega | ((try simp only [World.size_alloc, World.size_drew]); omega) | ((try simp only [World.size_alloc, World.size_drew] at hz ⊢); omega) | ((simp only [World.size_alloc, World.size_drew] at *); omega) | (rw [hc _ _ (by (try simp only [World.size_alloc, World.size_drew]); omega)]; go_simp) | ((repeat (first | assumption | (refine hk_alloc ?_ _) | (refine hk_set ?_ (by first | assumption | omega) _) | (refine hk_up (by assumption) ?_))); done) | go_keep))))
    (first | fail)
  obtain ⟨w2, hw2⟩ : ∃ w2, w2 = (w1.alloc (.cells #[.int .u64 tick, .int .i64 own.player, .string own.name, .int .i64 own.x, .int .i64 own.y, .int .i64 own.sx, .int .i64 own.sy, .int .i64 own.heading, .int .i64 own.health, .int .i64 own.energy, .int .i64 own.ammo, .int .i64 own.cool, .int .i64 own.wait, .int .i64 own.spawns, .int .i64 own.score, .slice none 0 0] 36)).drew := ⟨_, rfl⟩
  have hu2 : Up w1 w2 := by rw [hw2]; exact ((Up.refl w1).alloc _).drew
  have hvw2 : w2.heap[w1.heap.size]? = some (.cells #[.int .u64 tick, .int .i64 own.player, .string own.name, .int .i64 own.x, .int .i64 own.y, .int .i64 own.sx, .int .i64 own.sy, .int .i64 own.heading, .int .i64 own.health, .int .i64 own.energy, .int .i64 own.ammo, .int .i64 own.cool, .int .i64 own.wait, .int .i64 own.spawns, .int .i64 own.score, .slice none 0 0] 36 (0, 0)) := by
    rw [hw2]; exact heap_alloc_new w1 _
  rw [← hw2]
  have HW2 := Lib.hid hw2
  clear hw2 c0 c1 c2 c3 c4 d0 d1 d2 d3 d4 d5 d6 d7 d8 d9 d10 d11 d12 d13
  have hst2 := hk_up hu2 hst1
  have hpl2 := hk_up hu2 hpl1
  have hv2 := hk_up hu2 hv1
  have c0 := hk_cell hst2 0
  have c1 := hk_cell hst2 1
  have c2 := hk_cell hst2 2
  have c3 := hk_cell hst2 3
  have c4 := hk_cell hpl2 0
  have c5 := hk_cell hvw2 3
  have c6 := hk_cell hvw2 4
  have ls2 := hk_lt hst2
  have lp2 := hk_lt hpl2
  have lv2 := hk_lt hvw2
  have hb02 : Below w.heap.size w w2 := ((hu0.trans hu1).trans hu2).below
  have hent := entities_any w2.drew tick next own.player (some ⟨bC, off, none⟩) SA nc cc ns cs cars shots (hC.below (hb02.drew)) (hS.below (hb02.drew)) hrc hrs
  obtain ⟨hr0, hr1⟩ := radOf_range radius
  have hshow : min (max «show» 0) 32 = showOf «show» := rfl
  have hrad : min (max radius 0) 1024 = radOf radius := rfl
  have hrr : 0 ≤ radOf radius ∧ radOf radius ≤ 1024 := by unfold radOf; omega
  rw [hshow, hrad]
  generalize hrg : radOf radius = rad at *
  generalize hsg : showOf «show» = sh at *
  clear hshow hrad hst1 hpl1 hv1
  go_wp2_with fail
  go_region_held3 (fun w' => w2.heap.size ≤ w'.heap.size ∧ w'.cell? ⟨w.heap.size, 0, none⟩ = some (.int .u64 tick) ∧ w'.cell? ⟨w.heap.size, 1, none⟩ = some (.slice (some ⟨bC, off, none⟩) nc cc) ∧ w'.cell? ⟨w.heap.size, 2, none⟩ = some (.slice SA ns cs) ∧ w'.cell? ⟨w.heap.size, 3, none⟩ = some (.int .i64 next) ∧ w'.cell? ⟨w.heap.size + 1, 0, none⟩ = some (.int .i64 own.player) ∧ w'.cell? ⟨w1.heap.size, 3, none⟩ = some (.int .i64 own.x) ∧ w'.cell? ⟨w1.heap.size, 4, none⟩ = some (.int .i64 own.y)) (first | (((try dsimp only); (repeat' apply And.intro) <;> (first | assumption | omega | ((try simp only [World.size_alloc, World.size_drew]); omega) | ((try simp only [World.size_alloc, World.size_drew] at hz ⊢); omega) | ((simp only [World.size_alloc, World.size_drew] at *); omega) | (rw [hc _ _ (by (try simp only [World.size_alloc, World.size_drew]); omega)]; go_simp) | ((repeat (first | assumption | (refine hk_alloc ?_ _) | (refine hk_set ?_ (by first | assumption | omega) _) | (refine hk_up (by assumption) ?_))); done) | go_keep))))
    (first | (go_at_call 22; refine hent.mono ?_; rintro e w3 ⟨vE, rfl, hoE, hbE⟩; obtain ⟨A, cE, rfl, hA⟩ := own_blk seen_len hoE; obtain ⟨hc, hf⟩ := bcell hbE; have hz := hbE.size) | (go_at_call 21; refine (near_seq_up _ _ _ _ _ _ _).mono ?_; rintro e w4 ⟨rfl, hu4, hx4, hy4, hz4⟩; obtain ⟨hc, hf⟩ := ucell hu4; have hz := hu4.size))
  go_wp2_with fail
  have hvw4 : w4.heap[w1.heap.size]? = some (.cells (viewCells tick own (.slice none 0 0)) 36 (0, 0)) := hk_up hu4 ((hbE.block _ (by simpa using lv2)).trans hvw2)
  have hv4 := hk_up hu4 ((hbE.block (w.heap.size + 1 + 1) (by simpa using hk_lt hv2)).trans hv2)
  have hb04 : Below w.heap.size w w4 := (hb02.drew.trans (hbE.mono (by simpa using hb02.size))).trans (hu4.below.mono (Nat.le_trans hb02.size (by simpa using hbE.size)))
  obtain ⟨hdist, hesok⟩ := ents_inv cars shots own.player hoc hos
  have hel := ents_length cars shots own.player
  have hown4 := own_up hoE hu4
  have hlt4 : ∀ k, (Value.slice A (ents cars shots own.player).length cE).ownBlock = some k → k < w4.heap.size := fun k hk => (hown4.lt k hk).2
  have hoko : own.ok := hoc own (List.mem_of_getElem? hk)
  have hroomE : Room (ents cars shots own.player).length := by have h1 := hC.1; have h2 := hS.1; unfold Room; omega
  have hw14 : w1.heap.size < w4.heap.size := hk_lt hvw4
  have hww4 : w.heap.size + 1 + 1 < w4.heap.size := hk_lt hv4
  have hws : w.heap.size + 1 + 1 < w1.heap.size := hk_lt (hk_up hu1 (by have := HW0.out; rw [this]; exact alloc_at (by simp) _))
  have hwrap : IntKind.i64.wrap (rad * 65536) = rad * 65536 := by
    rw [IntKind.wrap_i64]
    omega
  rw [hwrap] at hz4
  have hst := near1_stops 1 w3.heap.size (w3.heap.size + 1) (w3.heap.size + 1 + 1) w4.heap.size (ents cars shots own.player) _ own.x own.y (rad * 65536) w4 (Nat.le_refl _) hx4 hy4 hz4 ⟨_, hown4⟩ hlt4 (fun s hs => ⟨(hesok s hs).2.2.1, (hesok s hs).2.2.2.1⟩) hoko.2.1 hoko.2.2.1 hr0 hr1 hroomE
  clear c0 c1 c2 c3 c4 c5 c6 hent
  refine wp_named ?_ rfl
  intro T hT _
  refine (wpIn_wide (n := 3)).1 ?_
  refine wpIn_rangeFunc_ownH rfl (by omega) (gf := 33) (lb := #[.pointer (some ⟨w3.heap.size, 0, none⟩), .pointer (some ⟨w3.heap.size + 1, 0, none⟩), .pointer (some ⟨w3.heap.size + 1 + 1, 0, none⟩)]) (by rw [hT]; rfl) trivial (enters_of Try.func33 (by kernel_rfl) rfl)
    hst KpV.trans (fun W l o o' _ h hc _ => KpV.putObj W l o o' h hc) (Below.refl _ _) (fun _ => rfl)
    (LoopI w w1.heap.size w4.heap.size tick own _) (fun _ _ _ => False) (LoopI.from (by omega)) (fun _ _ _ _ _ hs _ _ => hs) ⟨⟨_, hvw4, World.ownsRow_nil _ _ _ _⟩, hv4, hb04, Nat.le_refl _⟩
    (LoopA T) (fun x a' => LoopA.from) ?assign ?body ?done ?stop
  case assign =>
    intro l pre x W K hI hK
    subst hT
    simp only [Seen.val]
    gi_wp2
    obtain ⟨⟨v, hvw, hov⟩, hrc, hbw, hszw⟩ := hI
    refine hK _ _ ((KeepsOthers.alloc _ _).from _) (KpV.alloc _ _) ⟨⟨v, hk_alloc hvw _, hov.alloc _⟩, hk_alloc hrc _, hbw.alloc hbw.size _, Nat.le_trans hszw (by simp)⟩ ⟨W.heap.size, heap_alloc_new _ _, ?_⟩
    first | rfl | simp [Seen.val, hwrap]
  case body =>
    rintro l pre x a' W hl _ ⟨⟨v, hvw, hov⟩, hrc, hbw, hszw⟩ ⟨Bx, hBx, rfl⟩ hlt
    subst hT
    have cx0 : W.cell? ⟨Bx, 0, none⟩ = some (.int .i64 x.kind) := hk_cell hBx 0
    have cx1 : W.cell? ⟨Bx, 1, none⟩ = some (.int .i64 x.id) := hk_cell hBx 1
    have cx2 : W.cell? ⟨Bx, 2, none⟩ = some (.int .i64 x.x) := hk_cell hBx 2
    have cx3 : W.cell? ⟨Bx, 3, none⟩ = some (.int .i64 x.y) := hk_cell hBx 3
    have cx4 : W.cell? ⟨Bx, 4, none⟩ = some (.int .i64 x.heading) := hk_cell hBx 4
    have cv : W.cell? ⟨w1.heap.size, 15, none⟩ = some v := hk_cell hvw 15
    have hroom := hroomE.lt
    have hlen1 : pre.length + 1 ≤ 9223372036854775807 := by omega
    have hlen2 : (pre.length + 1) * 40 ≤ 140737488355328 := by omega
    clear hroom
    simp only [List.setIfInBounds_toArray, List.set_cons_succ, List.set_cons_zero]
    gi_wp2_with (gi_at_builtin; go_loud (refine wpListIn_append rfl w4.heap.size (.tmp 45) (.tmp 47) 43 (.agg #[.int .i64 0, .int .i64 0, .int .i64 0, .int .i64 0, .int .i64 0]) 5 40 rfl Try.underlying34 info_seen rfl (by omega) v _ _ [.int .i64 x.kind, .int .i64 x.id, .int .i64 x.x, .int .i64 x.y, .int .i64 x.heading] rfl W.heap.size rfl (heap_alloc_new _ _) rfl (by simp [Value.oneCell']) (hov.alloc _) (Nat.le_trans hszw (by simp)) hlen1 hlen2 ?_; intro gg cap w5 ho5 hg5; have hv5 := (hg5.block w1.heap.size (by have := hk_lt hvw; simp; omega) (own_ne_cells hov hvw (by decide))).trans (hk_alloc hvw _); have cv5 : w5.cell? ⟨w1.heap.size, 15, none⟩ = some v := hk_cell hv5 15; have f5 := hk_free hv5 15))
    have hgw := (hov.alloc (.cells #[.int .i64 x.kind, .int .i64 x.id, .int .i64 x.x, .int .i64 x.y, .int .i64 x.heading] 43))
    have hws4 : w.heap.size ≤ w4.heap.size := hb04.size
    have hlo : ∀ k, v.ownBlock = some k → w.heap.size ≤ k := fun k e => Nat.le_trans hws4 (hov.lt k e).1
    refine ⟨(((KeepsOthers.alloc W _).trans (keeps_own hgw hg5)).trans (KeepsOthers.setCell _ _ _)).from _, ((KpV.alloc W _).trans (KpV.grown hgw hg5)).trans (KpV.set w5 hv5 15 _), ⟨⟨_, blk_set1 hv5 15 _, ?_⟩, ?_, ?_, ?_⟩⟩
    · rw [flat_snoc, List.length_append]
      exact World.ownsRow.kept ho5 (World.grownBy_set w5 w1.heap.size 15 _) (.inr (fun e => own_ne_cells ho5 hv5 (by decide) e.symm))
    · refine hk_set ((hg5.block (w.heap.size + 1 + 1) (by have := hk_lt hrc; simp; omega) (own_ne_cells hov hrc (by decide))).trans (hk_alloc hrc _)) ?_ _
      show w.heap.size + 1 + 1 ≠ w1.heap.size
      omega
    · exact hbw.trans ((((Below.refl w.heap.size W).alloc hbw.size _).grown hg5 (by have := hbw.size; simp; omega) hlo).setCell (p := ⟨w1.heap.size, 15, none⟩) (by show w.heap.size ≤ w1.heap.size; omega) _)
    · have := hg5.size
      simp [World.setCell] at this ⊢
      omega
  case done =>
    rintro D xs W hD rfl ⟨⟨v, hvw, hov⟩, hrc, hbw, hszw⟩ hDB
    subst hT
    have cv : W.cell? ⟨w1.heap.size, 15, none⟩ = some v := hk_cell hvw 15
    have hln : w1.heap.size < W.heap.size := hk_lt hvw
    obtain ⟨AV, cV, rfl, hAV⟩ := own_blk seen_len hov
    have hcapV : (nearS (ents cars shots own.player) own.x own.y (rad * 65536)).length ≤ cV := by
      rcases hov.2 with ⟨e1, e2⟩ | ⟨g, cap, cur, e1, _, _, e2, _⟩
      · omega
      · injection e1 with _ _ e3
        omega
    have hNok : ∀ s ∈ nearS (ents cars shots own.player) own.x own.y (rad * 65536), s.ok := fun s hs => hesok s (List.mem_filter.1 hs).1
    have hNd : Dist (nearS (ents cars shots own.player) own.x own.y (rad * 65536)) := hdist.sub (fun s hs => (List.mem_filter.1 hs).1)
    have hNl : (nearS (ents cars shots own.player) own.x own.y (rad * 65536)).length ≤ 2147483648 := by
      have h1 := List.length_filter_le (fun s : Seen => withinB s.x s.y own.x own.y (rad * 65536)) (ents cars shots own.player)
      have h2 := hC.1
      have h3 := hS.1
      unfold nearS
      omega
    have hnst : nearest cars shots own own.player radius = isort (ltOf (nearI own.x own.y)) (nearS (ents cars shots own.player) own.x own.y (rad * 65536)) := by unfold nearest; rw [hrg]
    have hseen : seenOf cars shots own own.player radius «show» = isort (ltOf toldI) ((nearest cars shots own own.player radius).take (min sh (nearest cars shots own own.player radius).length).toNat) := by unfold seenOf; rw [hsg]
    have hil := (isort_perm (ltOf (nearI own.x own.y)) (nearS (ents cars shots own.player) own.x own.y (rad * 65536))).length_eq
    have him := fun s => (isort_perm (ltOf (nearI own.x own.y)) (nearS (ents cars shots own.player) own.x own.y (rad * 65536))).mem_iff (a := s)
    have hsort := sort_near W _ w4.heap.size w1.heap.size _ own.x own.y _ hNok hNd hov hoko.2.1 hoko.2.2.1 hvw rfl rfl (by omega)
    rw [hnst] at hseen
    clear hnst hst
    generalize nearS (ents cars shots own.player) own.x own.y (rad * 65536) = NS at *
    generalize isort (ltOf (nearI own.x own.y)) NS = IS at *
    have HSEEN := Lib.hid hseen
    clear hseen
    go_wp2_with fail
    refine hsort.mono ?_
    rintro e wS ⟨rfl, hoS, hgS⟩
    have hvwS : wS.heap[w1.heap.size]? = _ := (hgS.block _ (hk_lt hvw) (own_ne_cells hov hvw (by decide))).trans hvw
    have hrcS := (hgS.block _ (hk_lt hrc) (own_ne_cells hov hrc (by decide))).trans hrc
    have cvS : wS.cell? ⟨w1.heap.size, 15, none⟩ = some (.slice AV NS.length cV) := hk_cell hvwS 15
    obtain ⟨mm, hmm⟩ : ∃ mm : Nat, min sh (NS.length : Int) = (mm : Int) := ⟨(min sh (NS.length : Int)).toNat, by
      have : 0 ≤ sh := by rw [← hsg]; unfold showOf; omega
      omega⟩
    have hmn : mm ≤ NS.length := by omega
    have hmn2 : mm ≤ cV := by omega
    have hclone := clone_any wS w4.heap.size AV NS.length cV mm IS hoS (by omega) hmn (by omega)
    have hl2 : (IS.take mm).length = mm := by rw [List.length_take]; omega
    have h2ok : ∀ s ∈ IS.take mm, s.ok := fun s hs => hNok s ((him s).1 (List.mem_of_mem_take hs))
    have h2d : Dist (IS.take mm) := hNd.sub (fun s hs => (him s).1 (List.mem_of_mem_take hs))
    have hss : seenOf cars shots own own.player radius «show» = isort (ltOf toldI) (IS.take mm) := by
      rw [HSEEN.out, hil, hmm]
      rfl
    have HSS := Lib.hid hss
    clear hss
    generalize IS.take mm = L2 at *
    subst hl2
    have hDlt : D < W.heap.size := hk_lt hDB
    have hDS := (hgS.block D hDlt (own_ne_dead hov hDB)).trans hDB
    go_wp2_with fail
    refine hclone.mono ?_
    rintro e wC ⟨v2, rfl, hoC, hbC⟩
    obtain ⟨A2, c2, rfl, -⟩ := own_blk seen_len hoC
    have hvwC : wC.heap[w1.heap.size]? = some (.cells (viewCells tick own (.slice AV NS.length cV)) 36 (0, 0)) := (hbC.block _ (hk_lt hvwS)).trans hvwS
    have hrcC := (hbC.block _ (hk_lt hrcS)).trans hrcS
    have hDC := (hbC.block _ (hk_lt hDS)).trans hDS
    have cvC : wC.cell? ⟨w1.heap.size, 15, none⟩ = some (.slice AV NS.length cV) := hk_cell hvwC 15
    have fvC := hk_free hvwC 15
    have hn2 := own_ne_cells hoC hvwC (by decide)
    have hoC2 := World.ownsRow.kept hoC (World.grownBy_set wC w1.heap.size 15 (.slice A2 L2.length c2)) (.inr (fun e => hn2 e.symm))
    have htold := sort_told _ _ _ L2 h2ok h2d hoC2 (by omega)
    go_wp2_with fail
    refine htold.mono ?_
    rintro e wT ⟨rfl, hoT, hgT⟩
    have hvwT : wT.heap[w1.heap.size]? = some (.cells (viewCells tick own (.slice A2 L2.length c2)) 36 (0, 0)) := (hgT.block _ (by have := hk_lt hvwC; simpa [World.setCell] using this) hn2).trans (blk_set1 hvwC 15 _)
    have hrcT := (hgT.block (w.heap.size + 1 + 1) (by have := hk_lt hrcC; simpa [World.setCell] using this) (own_ne_cells hoC hrcC (by decide))).trans (hk_set hrcC (by show w.heap.size + 1 + 1 ≠ w1.heap.size; omega) _)
    have hDT := (hgT.block D (by have := hk_lt hDC; simpa [World.setCell] using this) (own_ne_dead hoC hDC)).trans (hk_set hDC (by show D ≠ w1.heap.size; omega) _)
    have e0 : wT.cell? ⟨w1.heap.size, 0, none⟩ = some (.int .u64 tick) := hk_cell hvwT 0
    have e1 : wT.cell? ⟨w1.heap.size, 1, none⟩ = some (.int .i64 own.player) := hk_cell hvwT 1
    have e2 : wT.cell? ⟨w1.heap.size, 2, none⟩ = some (.string own.name) := hk_cell hvwT 2
    have e3 : wT.cell? ⟨w1.heap.size, 3, none⟩ = some (.int .i64 own.x) := hk_cell hvwT 3
    have e4 : wT.cell? ⟨w1.heap.size, 4, none⟩ = some (.int .i64 own.y) := hk_cell hvwT 4
    have e5 : wT.cell? ⟨w1.heap.size, 5, none⟩ = some (.int .i64 own.sx) := hk_cell hvwT 5
    have e6 : wT.cell? ⟨w1.heap.size, 6, none⟩ = some (.int .i64 own.sy) := hk_cell hvwT 6
    have e7 : wT.cell? ⟨w1.heap.size, 7, none⟩ = some (.int .i64 own.heading) := hk_cell hvwT 7
    have e8 : wT.cell? ⟨w1.heap.size, 8, none⟩ = some (.int .i64 own.health) := hk_cell hvwT 8
    have e9 : wT.cell? ⟨w1.heap.size, 9, none⟩ = some (.int .i64 own.energy) := hk_cell hvwT 9
    have e10 : wT.cell? ⟨w1.heap.size, 10, none⟩ = some (.int .i64 own.ammo) := hk_cell hvwT 10
    have e11 : wT.cell? ⟨w1.heap.size, 11, none⟩ = some (.int .i64 own.cool) := hk_cell hvwT 11
    have e12 : wT.cell? ⟨w1.heap.size, 12, none⟩ = some (.int .i64 own.wait) := hk_cell hvwT 12
    have e13 : wT.cell? ⟨w1.heap.size, 13, none⟩ = some (.int .i64 own.spawns) := hk_cell hvwT 13
    have e14 : wT.cell? ⟨w1.heap.size, 14, none⟩ = some (.int .i64 own.score) := hk_cell hvwT 14
    have e15 : wT.cell? ⟨w1.heap.size, 15, none⟩ = some (.slice A2 L2.length c2) := hk_cell hvwT 15
    have r0 : wT.cell? ⟨w.heap.size + 1 + 1, 0, none⟩ = some (.int .u64 0) := hk_cell hrcT 0
    have fr0 := hk_free hrcT 0
    have r1 : wT.cell? ⟨w.heap.size + 1 + 1, 1, none⟩ = some (.int .i64 0) := hk_cell hrcT 1
    have fr1 := hk_free hrcT 1
    have r2 : wT.cell? ⟨w.heap.size + 1 + 1, 2, none⟩ = some (.string { data := #[] }) := hk_cell hrcT 2
    have fr2 := hk_free hrcT 2
    have r3 : wT.cell? ⟨w.heap.size + 1 + 1, 3, none⟩ = some (.int .i64 0) := hk_cell hrcT 3
    have fr3 := hk_free hrcT 3
    have r4 : wT.cell? ⟨w.heap.size + 1 + 1, 4, none⟩ = some (.int .i64 0) := hk_cell hrcT 4
    have fr4 := hk_free hrcT 4
    have r5 : wT.cell? ⟨w.heap.size + 1 + 1, 5, none⟩ = some (.int .i64 0) := hk_cell hrcT 5
    have fr5 := hk_free hrcT 5
    have r6 : wT.cell? ⟨w.heap.size + 1 + 1, 6, none⟩ = some (.int .i64 0) := hk_cell hrcT 6
    have fr6 := hk_free hrcT 6
    have r7 : wT.cell? ⟨w.heap.size + 1 + 1, 7, none⟩ = some (.int .i64 0) := hk_cell hrcT 7
    have fr7 := hk_free hrcT 7
    have r8 : wT.cell? ⟨w.heap.size + 1 + 1, 8, none⟩ = some (.int .i64 0) := hk_cell hrcT 8
    have fr8 := hk_free hrcT 8
    have r9 : wT.cell? ⟨w.heap.size + 1 + 1, 9, none⟩ = some (.int .i64 0) := hk_cell hrcT 9
    have fr9 := hk_free hrcT 9
    have r10 : wT.cell? ⟨w.heap.size + 1 + 1, 10, none⟩ = some (.int .i64 0) := hk_cell hrcT 10
    have fr10 := hk_free hrcT 10
    have r11 : wT.cell? ⟨w.heap.size + 1 + 1, 11, none⟩ = some (.int .i64 0) := hk_cell hrcT 11
    have fr11 := hk_free hrcT 11
    have r12 : wT.cell? ⟨w.heap.size + 1 + 1, 12, none⟩ = some (.int .i64 0) := hk_cell hrcT 12
    have fr12 := hk_free hrcT 12
    have r13 : wT.cell? ⟨w.heap.size + 1 + 1, 13, none⟩ = some (.int .i64 0) := hk_cell hrcT 13
    have fr13 := hk_free hrcT 13
    have r14 : wT.cell? ⟨w.heap.size + 1 + 1, 14, none⟩ = some (.int .i64 0) := hk_cell hrcT 14
    have fr14 := hk_free hrcT 14
    have r15 : wT.cell? ⟨w.heap.size + 1 + 1, 15, none⟩ = some (.slice none 0 0) := hk_cell hrcT 15
    have fr15 := hk_free hrcT 15
    go_wp2_with fail
    have hend := of_view_end (R := fun e w' => ∃ v, e = .returned (.tuple #[.agg #[.int .u64 tick, .int .i64 own.player, .string own.name, .int .i64 own.x, .int .i64 own.y, .int .i64 own.sx, .int .i64 own.sy, .int .i64 own.heading, .int .i64 own.health, .int .i64 own.energy, .int .i64 own.ammo, .int .i64 own.cool, .int .i64 own.wait, .int .i64 own.spawns, .int .i64 own.score, v], .int .i64 0]) ∧
      w'.ownsRow w.heap.size 43 5 v (seenOf cars shots own own.player radius «show»).length (flat Seen.enc (seenOf cars shots own own.player radius «show»)) ∧ Below w.heap.size w w') wT (w.heap.size + 1 + 1) D tick own (.slice A2 L2.length c2) hrcT hDT ?_
    · exact hend _ rfl rfl
    · intro w' hg8
      refine ⟨.slice A2 L2.length c2, rfl, ?_, ?_⟩
      · rw [HSS.out, (isort_perm (ltOf toldI) L2).length_eq]
        have ho := own_mono (base' := w.heap.size) hoT (Nat.le_trans hbw.size hgS.size)
        exact own_two ho hg8 (own_ne_cells hoT hrcT (by decide)) (own_ne_dead hoT hDT)
      · have k1 : Kp (fun k => w.heap.size ≤ k) W wS := Kp.grown hgS (fun k e => Nat.le_trans hb04.size (hov.lt k e).1)
        have k2 : Kp (fun k => w.heap.size ≤ k) wS wC := (Kp.of_below hbC).mono (fun k _ h => Nat.le_trans (Nat.le_trans hbw.size hgS.size) h)
        have k3 : Kp (fun k => w.heap.size ≤ k) wC (wC.setCell ⟨w1.heap.size, 15, none⟩ (.slice A2 L2.length c2)) := Kp.setCell _ _ _ (by show w.heap.size ≤ w1.heap.size; omega)
        have k4 : Kp (fun k => w.heap.size ≤ k) (wC.setCell ⟨w1.heap.size, 15, none⟩ (.slice A2 L2.length c2)) wT := Kp.grown hgT (fun k e => Nat.le_trans (Nat.le_trans hbw.size hgS.size) (hoC.lt k e).1)
        have k5 : Kp (fun k => w.heap.size ≤ k) wT w' := Kp.two hg8 (by show w.heap.size ≤ w.heap.size + 1 + 1; omega) (by show w.heap.size ≤ D; omega)
        exact hbw.trans (((((k1.trans k2).trans k3).trans k4).trans k5).below hbw.size (fun k h => h))
  case stop =>
    rintro D c pre W _ _ h _
    exact h.elim
end Go.Proofs.Ytnjgkgbgmjoceaa
