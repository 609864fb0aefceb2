/-
  The grid's own state, and Put.
-/
import Derived.Test.YtnjgkgbgmjoceaaGrid
import Derived.Deep.DeepMust
set_option linter.unusedSimpArgs false
set_option linter.unusedVariables false
namespace Go.Proofs.Ytnjgkgbgmjoceaa
open Go.RowKit Go.ChangeMaps Go.Sort

def cellOf (p : Int × Int) : Cell := (p.1 / 4194304, p.2 / 4194304)
/-- The numbers of the things in a cell. -/
def idsFrom : List (Int × Int) → Nat → Cell → List Int
  | [], _, _ => []
  | p :: r, n, c => if cellOf p = c then (n : Int) :: idsFrom r (n + 1) c else idsFrom r (n + 1) c
def idsOf (ps : List (Int × Int)) (c : Cell) : List Int := idsFrom ps 0 c
theorem idsFrom_snoc (ps : List (Int × Int)) (p : Int × Int) (n : Nat) (c : Cell) : idsFrom (ps ++ [p]) n c = idsFrom ps n c ++ (if cellOf p = c then [((n + ps.length : Nat) : Int)] else []) := by
  induction ps generalizing n with
  | nil => simp [idsFrom]
  | cons q r ih =>
    simp only [List.cons_append, idsFrom, ih (n + 1), List.length_cons]
    have e : n + 1 + r.length = n + (r.length + 1) := by omega
    rw [e]
    split <;> simp
theorem idsOf_snoc (ps : List (Int × Int)) (p : Int × Int) (c : Cell) : idsOf (ps ++ [p]) c = idsOf ps c ++ (if cellOf p = c then [(ps.length : Int)] else []) := by
  simpa [idsOf] using idsFrom_snoc ps p 0 c
theorem idsFrom_length (ps : List (Int × Int)) (n : Nat) (c : Cell) : (idsFrom ps n c).length ≤ ps.length := by
  induction ps generalizing n with
  | nil => simp [idsFrom]
  | cons q r ih =>
    have := ih (n + 1)
    unfold idsFrom
    split <;> simp <;> omega

/-- The grid's state: the record, the map of places, the map of cells with their rows. -/
structure GridIs (w : World) (g bp bc base : Nat) (ps : List (Int × Int)) (ce : List (Ent Cell)) (ck : Nat) : Prop where
  hg : w.heap[g]? = some (.cells #[.int .i64 4194304, .map (some bp), .map (some bc)] 100 (0, 0))
  hp : w.heap[bp]? = some (mapObj intV (placesE ps) ps.length)
  hc : w.heap[bc]? = some (mapObj (fun c : Cell => Value.agg (cellA c)) ce ck)
  st : Stamped ce ck
  row : ∀ c v, atE c ce = some v → w.ownsRow base 3 1 v (idsOf ps c).length ((idsOf ps c).map cI) ∧ v.ownBlock ≠ none
  apart : ∀ c c' v v', c ≠ c' → atE c ce = some v → atE c' ce = some v' → v.ownBlock ≠ v'.ownBlock
  full : ∀ c, atE c ce = none → idsOf ps c = []
  bg : base ≤ g
  bbp : base ≤ bp
  bbc : base ≤ bc
  ne : bp ≠ bc

theorem GridIs.up {w w' : World} {g bp bc base : Nat} {ps : List (Int × Int)} {ce : List (Ent Cell)} {ck : Nat} (h : GridIs w g bp bc base ps ce ck) (hu : Up w w') : GridIs w' g bp bc base ps ce ck :=
  ⟨hk_up hu h.hg, hk_up hu h.hp, hk_up hu h.hc, h.st, fun c v hv => ⟨(h.row c v hv).1.kept (row := none) ⟨hu.os, hu.tape, hu.output, hu.size, fun k hk _ => hu.block k hk⟩ (.inr (h.row c v hv).2), (h.row c v hv).2⟩, h.apart, h.full, h.bg, h.bbp, h.bbc, h.ne⟩

theorem own_ne_map {κ : Type} {enc : κ → Value} {w : World} {base : Nat} {e : TypeId} {k n : Nat} {v : Value} {xs : List Value} {b clk : Nat} {l : List (Ent κ)} (h : w.ownsRow base e k v n xs) (hb : w.heap[b]? = some (mapObj enc l clk)) : v.ownBlock = none ∨ v.ownBlock ≠ some b := by
  rcases h.2 with ⟨rfl, -⟩ | ⟨g, cap, cur, rfl, -, hg, -⟩
  · exact .inl rfl
  · refine .inr fun e1 => ?_
    simp [Value.ownBlock] at e1
    subst e1
    rw [hg] at hb
    cases hb
theorem own_ne_cells {w : World} {base : Nat} {e e' : TypeId} {k n : Nat} {v : Value} {xs : List Value} {b : Nat} {cs : Array Value} {fr : Nat × Nat} (h : w.ownsRow base e k v n xs) (hb : w.heap[b]? = some (.cells cs e' fr)) (hne : e ≠ e') : some b ≠ v.ownBlock := by
  rcases h.2 with ⟨rfl, -⟩ | ⟨g, cap, cur, rfl, -, hg, -⟩
  · simp [Value.ownBlock]
  · intro e1
    simp [Value.ownBlock] at e1
    subst e1
    rw [hg] at hb
    cases hb
    exact hne rfl
theorem own_up {w w' : World} {base : Nat} {e : TypeId} {k n : Nat} {v : Value} {xs : List Value} (h : w.ownsRow base e k v n xs) (hu : Up w w') : w'.ownsRow base e k v n xs := by
  refine ⟨h.1, ?_⟩
  rcases h.2 with hn | ⟨g, cap, cur, rfl, hb, hg, rest⟩
  · exact .inl hn
  · exact .inr ⟨g, cap, cur, rfl, hb, hk_up hu hg, rest⟩
theorem info_int : (Try.prog.info? 3).map (fun i => (i.zero, i.size, i.bytes)) = some (some (.int .i64 0), 1, 8) := by kernel_rfl
theorem intVKeys : KeysOk Try.prog 3 intV (fun _ => True) := intKeys Try.underlying3
theorem place_put (ps : List (Int × Int)) (x y : Int) : mapObj intV (putE (ps.length : Int) (.agg #[.int .i64 x, .int .i64 y]) ps.length (placesE ps)) (clkE (ps.length : Int) ps.length (placesE ps)) = mapObj intV (placesE (ps ++ [(x, y)])) (ps.length + 1) := by
  have h := atE_places_none ps ps.length (Nat.le_refl _)
  rw [putE_none _ _ _ _ h, placesE_snoc]
  unfold clkE
  rw [h]
  rfl

set_option maxRecDepth 100000 in
set_option maxHeartbeats 1000000 in
theorem put_any (w : World) (g bp bc base : Nat) (ps : List (Int × Int)) (ce : List (Ent Cell)) (ck : Nat) (x y : Int) (h : GridIs w g bp bc base ps ce ck) (hx : I64 x) (hy : I64 y) (hn : Room ps.length) :
    Calls Try.prog 35 #[.pointer (some ⟨g, 0, none⟩), .int .i64 ps.length, .agg #[.int .i64 x, .int .i64 y]] w fun e w' => e = .returned (.tuple #[]) ∧ (∃ ce' ck', GridIs w' g bp bc base (ps ++ [(x, y)]) ce' ck') ∧ Below base w w' := by
  have hb : base ≤ w.heap.size := Nat.le_trans h.bg (Nat.le_of_lt (hk_lt h.hg))
  go_enter Try.func35, Try.ntmps35
  go_wp2_with fail
  have hu0 : Up w (w.alloc (.cells #[.int .i64 x, .int .i64 y] 31)) := (Up.refl w).alloc _
  have h0 := h.up hu0
  refine (delete_absent _ g bp ps ps.length (hk_cell h0.hg 1) h0.hp (Nat.le_refl _)).mono ?_
  rintro e w1 ⟨rfl, hu1⟩
  have h1 := h0.up hu1
  have hbx : w1.heap[w.heap.size]? = some (.cells #[.int .i64 x, .int .i64 y] 31 (0, 0)) := hk_up hu1 (heap_alloc_new _ _)
  have hv0 : w1.cell? ⟨w.heap.size, 0, none⟩ = some (.int .i64 x) := hk_cell hbx 0
  have hv1 : w1.cell? ⟨w.heap.size, 1, none⟩ = some (.int .i64 y) := hk_cell hbx 1
  clear hbx
  have hg1 : w1.cell? ⟨g, 1, none⟩ = some (.map (some bp)) := hk_cell h1.hg 1
  go_wp2_with fail
  go_still_tail 6, (by kernel_rfl)
  have hud : Up w1 w1.drew := (Up.refl w1).drew
  have hd1 := h1.up hud
  have hv0' : w1.drew.cell? ⟨w.heap.size, 0, none⟩ = some (.int .i64 x) := hv0
  have hv1' : w1.drew.cell? ⟨w.heap.size, 1, none⟩ = some (.int .i64 y) := hv1
  refine wpList_upd intVKeys rfl (.tmp 13) (.tmp 14) (.tmp 15) rfl Try.underlying97 rfl (ps.length : Int) rfl (.agg #[.int .i64 x, .int .i64 y]) rfl hd1.hp ?_
  intro w2 hs2 hn2
  rw [place_put] at hn2
  have hb2 : ∀ i, i ≠ bp → w2.heap[i]? = w1.heap[i]? := hs2.block
  have hv20 : w2.cell? ⟨w.heap.size, 0, none⟩ = some (.int .i64 x) := by rw [hs2.cell]; exact hv0
  have hv21 : w2.cell? ⟨w.heap.size, 1, none⟩ = some (.int .i64 y) := by rw [hs2.cell]; exact hv1
  have hg20 : w2.cell? ⟨g, 0, none⟩ = some (.int .i64 4194304) := by rw [hs2.cell]; exact hk_cell h1.hg 0
  have hg22 : w2.cell? ⟨g, 2, none⟩ = some (.map (some bc)) := by rw [hs2.cell]; exact hk_cell h1.hg 2
  have HS2 := Lib.hid hs2
  have HN2 := Lib.hid hn2
  have HB2 := Lib.hid hb2
  clear hs2 hn2 hb2 hv0 hv1 hv0' hv1'
  go_wp2_with fail
  refine (of_any _ g x y hg20 hx hy).mono ?_
  rintro e w3 ⟨rfl, hu3⟩
  have hg32 : w3.cell? ⟨g, 2, none⟩ = some (.map (some bc)) := hu3.below.cell (p := ⟨g, 2, none⟩) (World.block_lt_of_cell? _ _ hg22) ▸ hg22
  clear hv20 hv21 hg20 hg22
  unfold cellV
  dsimp only
  go_wp2_with fail
  -- the last region: the entry, the append, the store
  obtain ⟨c0, hc0⟩ : ∃ c0 : Cell, c0 = (x / 4194304, y / 4194304) := ⟨_, rfl⟩
  obtain ⟨v0, hv0⟩ : ∃ v0, v0 = (atE c0 ce).getD (.slice none 0 0) := ⟨_, rfl⟩
  have hc2 : w2.heap[bc]? = some (mapObj (fun c : Cell => Value.agg (cellA c)) ce ck) := (HB2.out bc (Ne.symm h.ne)).trans h1.hc
  obtain ⟨w4, hw4⟩ : ∃ w4, w4 = w3.alloc (.cells #[.int .i64 (x / 4194304), .int .i64 (y / 4194304)] 103) := ⟨_, rfl⟩
  have hu4 : Up w2 w4 := by rw [hw4]; exact hu3.alloc _
  have hc4 : w4.heap[bc]? = some (mapObj (fun c : Cell => Value.agg (cellA c)) ce ck) := hk_up hu4 hc2
  have hrow : w1.ownsRow base 3 1 v0 (idsOf ps c0).length ((idsOf ps c0).map cI) := by
    rw [hv0]
    cases hat : atE c0 ce with
    | none => rw [h1.full c0 hat]; exact World.ownsRow_nil _ _ _ _
    | some v => exact (h1.row c0 v hat).1
  have hne : v0.ownBlock = none ∨ v0.ownBlock ≠ some bp := own_ne_map hrow h1.hp
  have hrow2 : w2.ownsRow base 3 1 v0 (idsOf ps c0).length ((idsOf ps c0).map cI) := World.ownsRow.kept (w := w1.drew) hrow HS2.out.grown hne
  have hrow4 : w4.ownsRow base 3 1 v0 (idsOf ps c0).length ((idsOf ps c0).map cI) := own_up hrow2 hu4
  have hg2 : w2.heap[g]? = _ := (HB2.out g (fun e => by have a := h1.hg; have b := h1.hp; rw [e, b] at a; cases a)).trans h1.hg
  have hg4 := hk_up hu4 hg2
  have hb4 : w4.heap[w3.heap.size]? = some (.cells #[.int .i64 (x / 4194304), .int .i64 (y / 4194304)] 103 (0, 0)) := by rw [hw4]; exact heap_alloc_new _ _
  have hlen : (idsOf ps c0).length ≤ ps.length := idsFrom_length ps 0 c0
  have hroom := hn.lt
  have hlen1 : (idsOf ps c0).length + 1 ≤ 9223372036854775807 := by omega
  have hlen2 : ((idsOf ps c0).length + 1) * 8 ≤ 140737488355328 := by omega
  clear hroom
  have hbase4 : base ≤ w4.heap.size := Nat.le_trans h.bg (Nat.le_of_lt (hk_lt hg4))
  have hnb : v0.ownBlock = none ∨ v0.ownBlock ≠ some bc := own_ne_map hrow4 hc4
  have hng : some g ≠ v0.ownBlock := own_ne_cells hrow4 hg4 (by decide)
  have hnc : some w3.heap.size ≠ v0.ownBlock := own_ne_cells hrow4 hb4 (by decide)
  have k1 : w4.cell? ⟨g, 2, none⟩ = some (.map (some bc)) := hk_cell hg4 2
  have k2 : w4.cell? ⟨w3.heap.size, 0, none⟩ = some (.int .i64 (x / 4194304)) := hk_cell hb4 0
  have k3 : w4.cell? ⟨w3.heap.size, 1, none⟩ = some (.int .i64 (y / 4194304)) := hk_cell hb4 1
  have hl4 : w3.heap.size < w4.heap.size := hk_lt hb4
  have hlg : g < w4.heap.size := hk_lt hg4
  rw [← hw4]
  -- the three runs, ahead of the region
  have huA : Up w4 (w4.alloc (.cells #[.int .i64 ps.length] 3)).drew := ((Up.refl w4).alloc _).drew
  obtain ⟨wA, hwA⟩ : ∃ wA, wA = (w4.alloc (.cells #[.int .i64 ps.length] 3)).drew := ⟨_, rfl⟩
  rw [← hwA] at huA
  have hbox : wA.heap[w4.heap.size]? = some (.cells #[.int .i64 ps.length] 3 (0, 0)) := by rw [hwA]; exact heap_alloc_new _ _
  obtain ⟨w5, hr5, hs5, hn5⟩ := pre_entry (P := Try.prog) cellKeys Try.underlying98 zeroInts c0 (hk_up huA hc4)
  rw [← hv0] at hr5 hn5
  have hbox5 : w5.heap[w4.heap.size]? = some (.cells #[.int .i64 ps.length] 3 (0, 0)) := (hs5.block _ (fun e => by have := hk_lt hc4; omega)).trans hbox
  have hrow5 : w5.ownsRow base 3 1 v0 (idsOf ps c0).length ((idsOf ps c0).map cI) := World.ownsRow.kept (own_up hrow4 huA) hs5.grown hnb
  have hbase5 : base ≤ w5.heap.size := by rw [hs5.size]; exact Nat.le_trans hbase4 huA.size
  obtain ⟨v6, w6, hr6, ho6, hg6, hat6, hnn6⟩ := pre_append (P := Try.prog) (t := 78) base 3 78 (.int .i64 0) 1 8 Try.underlying78 info_int rfl (by omega) v0 _ _ [.int .i64 ps.length] w4.heap.size hbox5 rfl (by simp [Value.oneCell']) hrow5 hbase5 hlen1 hlen2
  have hn6 : w6.heap[bc]? = some (mapObj (fun c : Cell => Value.agg (cellA c)) (putE c0 v0 ck ce) (clkE c0 ck ce)) := (hg6.block bc (by have := hk_lt hn5; exact this) (fun e => by rcases hnb with h | h <;> simp_all)).trans hn5
  obtain ⟨w7, hr7, hs7, hn7⟩ := pre_entryStore (P := Try.prog) (t := 98) c0 ck v6 hn6 h1.st.put (by rw [atE_putE_same]; rfl)
  rw [stampE_put] at hr7
  rw [putE_putE] at hn7
  have q1 : w5.cell? ⟨g, 2, none⟩ = some (.map (some bc)) := (hs5.cell _).trans ((ucell huA).1 g 2 hlg |>.trans k1)
  have q2 : w5.cell? ⟨w3.heap.size, 0, none⟩ = some (.int .i64 (x / 4194304)) := (hs5.cell _).trans ((ucell huA).1 _ 0 hl4 |>.trans k2)
  have q3 : w5.cell? ⟨w3.heap.size, 1, none⟩ = some (.int .i64 (y / 4194304)) := (hs5.cell _).trans ((ucell huA).1 _ 1 hl4 |>.trans k3)
  have r1 := hg6.cell q1 hng
  have r2 := hg6.cell q2 hnc
  have r3 := hg6.cell q3 hnc
  have s1 : w7.cell? ⟨g, 2, none⟩ = some (.map (some bc)) := (hs7.cell _).trans r1
  have s2 : w7.cell? ⟨w3.heap.size, 0, none⟩ = some (.int .i64 (x / 4194304)) := (hs7.cell _).trans r2
  have s3 : w7.cell? ⟨w3.heap.size, 1, none⟩ = some (.int .i64 (y / 4194304)) := (hs7.cell _).trans r3
  -- what is left at the end
  have hfin : (∃ ce' ck', GridIs w7 g bp bc base (ps ++ [(x, y)]) ce' ck') ∧ Below base w w7 := by
    -- rows of w1, in w5
    have keep5 : ∀ (v : Value) (n : Nat) (xs : List Value), w1.ownsRow base 3 1 v n xs → w5.ownsRow base 3 1 v n xs := fun v n xs hr =>
      World.ownsRow.kept (own_up (own_up (World.ownsRow.kept (w := w1.drew) hr HS2.out.grown (own_ne_map hr h1.hp)) hu4) huA) hs5.grown (own_ne_map (own_up (own_up (World.ownsRow.kept (w := w1.drew) hr HS2.out.grown (own_ne_map hr h1.hp)) hu4) huA) (hk_up huA hc4))
    have lt5 : ∀ (v : Value) (n : Nat) (xs : List Value), w5.ownsRow base 3 1 v n xs → v.ownBlock ≠ some w5.heap.size := fun v n xs hr e => by
      have := (hr.lt _ e).2
      omega
    have hp4 := hk_up hu4 HN2.out
    have hnp : v0.ownBlock = none ∨ v0.ownBlock ≠ some bp := own_ne_map hrow4 hp4
    have to7 : ∀ i o, i ≠ bc → some i ≠ v0.ownBlock → w4.heap[i]? = some o → w7.heap[i]? = some o := fun i o h1 h2 h3 => by
      have a1 := hk_up huA h3
      have a2 : w5.heap[i]? = some o := (hs5.block i h1).trans a1
      have a3 : w6.heap[i]? = some o := (hg6.block i (hk_lt a2) h2).trans a2
      exact (hs7.block i h1).trans a3
    have hgbc : g ≠ bc := fun e => by have a := h1.hg; have b := h1.hc; rw [e, b] at a; cases a
    have hcell : cellOf (x, y) = c0 := by rw [hc0]; rfl
    have hv0c : ∀ c v, c ≠ c0 → atE c ce = some v → v.ownBlock ≠ v0.ownBlock := fun c v hc hv => by
      rw [hv0]
      cases hat : atE c0 ce with
      | none => exact (h1.row c v hv).2
      | some u => exact h1.apart c c0 v u hc hv hat
    have row7 : ∀ c v, c ≠ c0 → atE c ce = some v → w7.ownsRow base 3 1 v (idsOf ps c).length ((idsOf ps c).map cI) := fun c v hc hv => by
      have a5 := keep5 _ _ _ (h1.row c v hv).1
      have a6 := World.ownsRow.kept a5 hg6 (.inr (hv0c c v hc hv))
      exact World.ownsRow.kept a6 hs7.grown (own_ne_map a6 hn6)
    have row70 : w7.ownsRow base 3 1 v6 (idsOf (ps ++ [(x, y)]) c0).length ((idsOf (ps ++ [(x, y)]) c0).map cI) := by
      rw [idsOf_snoc, if_pos hcell, List.length_append, List.map_append]
      exact World.ownsRow.kept ho6 hs7.grown (own_ne_map ho6 hn6)
    refine ⟨⟨putE c0 v6 ck ce, clkE c0 ck ce, ⟨to7 g _ hgbc hng hg4, ?_, hn7, h1.st.put, ?_, ?_, ?_, h.bg, h.bbp, h.bbc, h.ne⟩⟩, ?_⟩
    · have := to7 bp _ h.ne (fun e => by rcases hnp with h | h <;> simp_all) hp4
      rw [List.length_append]
      exact this
    · intro c v hv
      by_cases hc : c = c0
      · subst hc
        rw [atE_putE_same] at hv
        cases hv
        exact ⟨row70, hnn6⟩
      · rw [atE_putE_other hc] at hv
        rw [idsOf_snoc, if_neg (by rw [hcell]; exact fun e => hc e.symm), List.append_nil]
        exact ⟨row7 c v hc hv, (h1.row c v hv).2⟩
    · intro c c' v v' hcc hv hv'
      by_cases hc : c = c0
      · subst hc
        have hc' : c' ≠ c := fun e => hcc e.symm
        rw [atE_putE_same] at hv
        cases hv
        rw [atE_putE_other hc'] at hv'
        rcases hat6 with h6 | h6
        · rw [h6]; exact fun e => hv0c c' v' hc' hv' e.symm
        · rw [h6]; exact fun e => lt5 _ _ _ (keep5 _ _ _ (h1.row c' v' hv').1) e.symm
      · rw [atE_putE_other hc] at hv
        by_cases hc' : c' = c0
        · subst hc'
          rw [atE_putE_same] at hv'
          cases hv'
          rcases hat6 with h6 | h6
          · rw [h6]; exact hv0c c v hc hv
          · rw [h6]; exact lt5 _ _ _ (keep5 _ _ _ (h1.row c v hv).1)
        · rw [atE_putE_other hc'] at hv'
          exact h1.apart c c' v v' hcc hv hv'
    · intro c hc
      have hc' : c ≠ c0 := fun e => by subst e; rw [atE_putE_same] at hc; cases hc
      rw [atE_putE_other hc'] at hc
      rw [idsOf_snoc, if_neg (by rw [hcell]; exact fun e => hc' e.symm), List.append_nil]
      exact h1.full c hc
    · have b1 : Below base w w1 := (hu0.trans hu1).below.mono hb
      have b2 : Below base w w2 := (b1.drew).trans ⟨HS2.out.grown.os, HS2.out.grown.tape, HS2.out.grown.output, HS2.out.grown.size, fun k hk => HS2.out.block k (fun e => by have := h.bbp; omega)⟩
      have b4 : Below base w wA := b2.trans ((hu4.trans huA).below.mono (Nat.le_trans h.bg (Nat.le_of_lt (hk_lt hg2))))
      have b5 : Below base w w5 := b4.trans ⟨hs5.grown.os, hs5.grown.tape, hs5.grown.output, hs5.grown.size, fun k hk => hs5.block k (fun e => by have := h.bbc; omega)⟩
      have b6 : Below base w w6 := b5.grown hg6 hbase5 (fun k hk => (hrow5.lt k hk).1)
      exact b6.trans ⟨hs7.grown.os, hs7.grown.tape, hs7.grown.output, hs7.grown.size, fun k hk => hs7.block k (fun e => by have := h.bbc; omega)⟩
  have HFIN := Lib.hid hfin
  rw [hwA] at hr5
  have hr5' : (Instr.mapEntry 98 (.map (some bc)) (.agg #[.int .i64 (x / 4194304), .int .i64 (y / 4194304)])).run Try.prog (w4.alloc (.cells #[.int .i64 ps.length] 3)).drew = .ok (.tuple #[v0, goInt (stampE c0 ck ce)]) w5 := by
    rw [hc0] at hr5 ⊢
    exact hr5
  clear hr5 hfin hn7 hs7 hn6 hat6 hnn6 hg6 ho6 hbase5 hrow5 hbox5 hn5 hs5 hbox huA hwA hw4 hv0 hc0 hg32 hrow hrow2 hrow4 hg4 hb4 hg2 hne hnb hng hnc hlen1 hlen2 hlen hc4 hu4
  have HR6 := Lib.hid hr6
  have hr7' : (Instr.entryStore 98 (.map (some bc)) (.int .i64 ((stampE c0 ck ce : Nat) : Int)) v6).run Try.prog w6 = .ok () w7 := hr7
  clear hr6 hr7
  go_region_held3 (fun w' => w'.cell? ⟨g, 2, none⟩ = some (.map (some bc)) ∧ w'.cell? ⟨w3.heap.size, 0, none⟩ = some (.int .i64 (x / 4194304)) ∧ w'.cell? ⟨w3.heap.size, 1, none⟩ = some (.int .i64 (y / 4194304))) (first | (((try dsimp only); (repeat' apply And.intro) <;> (first | assumption | omega | ((try simp only [World.size_alloc, World.size_drew]); omega) | ((try simp only [World.size_alloc, World.size_drew] at hz ⊢); omega) | ((simp only [World.size_alloc, World.size_drew] at *); omega) | (rw [hc _ _ (by (try simp only [World.size_alloc, World.size_drew]); omega)]; go_simp) | ((repeat (first | assumption | (refine hk_alloc ?_ _) | (refine hk_set ?_ (by first | assumption | omega) _) | (refine hk_up (by assumption) ?_))); done) | go_keep))))
    (first | (refine step_append_run rfl (.tmp 24) (.tmp 26) rfl v0 (.slice (some ⟨w4.heap.size, 0, none⟩) 1 1) rfl rfl HR6.out ?_))
  go_wp2
  go_end0
  exact ⟨rfl, HFIN.out⟩
end Go.Proofs.Ytnjgkgbgmjoceaa
