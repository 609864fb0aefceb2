/-
  What is near, in the grid: over all places, and over the cells.
-/
import Derived.Test.YtnjgkgbgmjoceaaNear
set_option linter.unusedSimpArgs false
set_option linter.unusedVariables false
namespace Go.Proofs.Ytnjgkgbgmjoceaa
open Go.RowKit Go.ChangeMaps Go.Sort

theorem GridIs.below {w w' : World} {g bp bc base : Nat} {ps : List (Int × Int)} {ce : List (Ent Cell)} {ck : Nat} (h : GridIs w g bp bc base ps ce ck) (hu : Below w.heap.size w w') : GridIs w' g bp bc base ps ce ck :=
  have k : ∀ {b : Nat} {o : Obj}, w.heap[b]? = some o → w'.heap[b]? = some o := fun hb => (hu.block _ (hk_lt hb)).trans hb
  ⟨k h.hg, k h.hp, k h.hc, h.st, fun c v hv => ⟨(h.row c v hv).1.kept (row := none) ⟨hu.os, hu.tape, hu.output, hu.size, fun k hk _ => hu.block k hk⟩ (.inr (h.row c v hv).2), (h.row c v hv).2⟩, h.apart, h.full, h.bg, h.bbp, h.bbc, h.ne⟩

/-- The state of the gathering, since world w0 (N: w0's size): the four boxes, the row of what has come. -/
structure NI (w0 : World) (g : Nat) (ax ay r : Int) (l : List Int) (v : Value) (wr : World) : Prop where
  bel : Below w0.heap.size w0 wr
  b3 : wr.heap[w0.heap.size]? = some (.cells #[.pointer (some ⟨g, 0, none⟩)] 82 (0, 0))
  b4 : wr.heap[w0.heap.size + 1]? = some (.cells #[.int .i64 ax, .int .i64 ay] 31 (0, 0))
  b5 : wr.heap[w0.heap.size + 1 + 1]? = some (.cells #[.int .i64 r] 2 (0, 0))
  b7 : wr.heap[w0.heap.size + 1 + 1 + 1]? = some (.cells #[v] 78 (0, 0))
  own : wr.ownsRow w0.heap.size 3 1 v l.length (l.map cI)

theorem NI.step {w0 : World} {g : Nat} {ax ay r : Int} {l l' : List Int} {v : Value} {wr w' : World} (h : NI w0 g ax ay r l v wr) (hG : Gathered (w0.heap.size + 1 + 1 + 1) w0.heap.size v l' wr w') : ∃ v', NI w0 g ax ay r l' v' w' := by
  obtain ⟨v1, h1, h2, h3, h4⟩ := hG
  have n3 := own_ne_cells h.own h.b3 (by decide)
  have n4 := own_ne_cells h.own h.b4 (by decide)
  have n5 := own_ne_cells h.own h.b5 (by decide)
  have hs : w0.heap.size + 1 + 1 + 1 < wr.heap.size := hk_lt h.b7
  refine ⟨v1, h.bel.trans (h3.below h.bel.size ?_), h3.at h.b3 ?_, h3.at h.b4 ?_, h3.at h.b5 ?_, h1, h2⟩
  · rintro k (rfl | hk)
    · omega
    · exact (h.own.lt k hk.symm).1
  · rintro (e | e)
    · omega
    · exact n3 e
  · rintro (e | e)
    · omega
    · exact n4 e
  · rintro (e | e)
    · omega
    · exact n5 e
theorem NI.up {w0 : World} {g : Nat} {ax ay r : Int} {l : List Int} {v : Value} {wr w' : World} (h : NI w0 g ax ay r l v wr) (hu : Up wr w') : NI w0 g ax ay r l v w' :=
  ⟨h.bel.trans (hu.below.mono h.bel.size), hk_up hu h.b3, hk_up hu h.b4, hk_up hu h.b5, hk_up hu h.b7, own_up h.own hu⟩
/-- Another block's object turned. -/
theorem NI.set {w0 : World} {g : Nat} {ax ay r : Int} {l : List Int} {v : Value} {wr : World} (h : NI w0 g ax ay r l v wr) {R : Nat} {o o' : Obj} (hR : wr.heap[R]? = some o) (ho : Obj.plain o = false) (hR0 : w0.heap.size ≤ R) : NI w0 g ax ay r l v (setBlock wr R o') := by
  have ne : ∀ {b : Nat} {c : Array Value} {t : TypeId} {f : Nat × Nat}, wr.heap[b]? = some (.cells c t f) → b ≠ R := fun hb e => by
    rw [e, hR] at hb
    cases hb
    cases ho
  refine ⟨h.bel.trans ⟨rfl, rfl, rfl, by simp [setBlock], fun k hk => sb_other _ (by omega)⟩, (sb_other _ (ne h.b3)).trans h.b3, (sb_other _ (ne h.b4)).trans h.b4, (sb_other _ (ne h.b5)).trans h.b5, (sb_other _ (ne h.b7)).trans h.b7, World.ownsRow.kept h.own (sb_grown _ _ _) ?_⟩
  rcases h.own.2 with ⟨e, -⟩ | ⟨gg, cap, cur, e, -, hg, -⟩
  · rw [e]; exact .inl rfl
  · rw [e]; exact .inr (by simpa [Value.ownBlock] using ne hg)

/-- What the gathering comes to. -/
def Near (ps : List (Int × Int)) (ax ay r : Int) (l : List Int) : Prop := l.Nodup ∧ ∀ i : Int, i ∈ l ↔ ∃ j : Nat, j < ps.length ∧ i = j ∧ wIn ps ax ay r j = true

def leftM (R n : Nat) (w : World) : Nat :=
  match w.heap[R]? with
  | some (.mapIter _ _ seen _) => n - seen.size
  | _ => 0

/-- The loop over all places. -/
def RelP (w0 : World) (g bp R : Nat) (ps : List (Int × Int)) (ax ay r : Int) (wr : World) : Prop :=
  ∃ (seen : Array Nat) (v : Value), wr.heap[R]? = some (.mapIter (some bp) ps.length seen ps.length) ∧ seen.toList.Nodup ∧ (∀ x ∈ seen.toList, x < ps.length) ∧ NI w0 g ax ay r ((seen.toList.filter (wIn ps ax ay r)).map Int.ofNat) v wr

theorem places_mem {ps : List (Int × Int)} {e : MapEntry} (h : e ∈ ((placesE ps).map (Ent.obj intV)).toArray.toList) : ∃ j, j < ps.length ∧ e = { key := .int .i64 (j : Int), val := .agg #[.int .i64 (pAt ps j).1, .int .i64 (pAt ps j).2], born := j } := by
  obtain ⟨e', he', rfl⟩ := List.mem_map.1 h
  obtain ⟨j, hj, rfl⟩ := List.mem_mapIdx.1 he'
  refine ⟨j, hj, ?_⟩
  simp [Ent.obj, intV, pAt, hj]
theorem places_born (ps : List (Int × Int)) : (((placesE ps).map (Ent.obj intV)).toArray.toList.map (·.born)).Nodup := by
  have e : ((placesE ps).map (Ent.obj intV)).toArray.toList.map (·.born) = List.range ps.length := by
    refine List.ext_getElem (by simp [placesE]) fun i h1 h2 => ?_
    simp [placesE, Ent.obj]
  rw [e]
  exact List.nodup_range

theorem mem_leftOf {es : Array MapEntry} {seen : Array Nat} {e : MapEntry} (h : e ∈ (leftOf es seen).toList) : e ∈ es.toList ∧ e.born ∉ seen.toList := by
  unfold leftOf at h
  simp at h
  simpa using h
theorem leftOf_none {es : Array MapEntry} {seen : Array Nat} (h : (leftOf es seen).size = 0) : ∀ e ∈ es.toList, e.born ∈ seen.toList := by
  intro e he
  unfold leftOf at h
  rw [Array.size_eq_zero_iff, Array.filter_eq_empty_iff] at h
  have := h e (by simpa using he)
  simpa using this

theorem nodup_le {l : List Nat} {n : Nat} (h : l.Nodup) (hl : ∀ x ∈ l, x < n) : l.length ≤ n := by
  have := List.Nodup.length_le_of_subset (l₂ := List.range n) h (fun x hx => List.mem_range.2 (hl x hx))
  simpa using this

/-- At the loop's end all have been met. -/
theorem near_of_seen {ps : List (Int × Int)} {ax ay r : Int} {seen : List Nat} (h1 : seen.Nodup) (h2 : ∀ x ∈ seen, x < ps.length) (h3 : ∀ j, j < ps.length → j ∈ seen) : Near ps ax ay r ((seen.filter (wIn ps ax ay r)).map Int.ofNat) := by
  refine ⟨?_, fun i => ?_⟩
  · exact List.Pairwise.map Int.ofNat (fun a b h e => h (Int.ofNat.inj e)) (h1.filter _)
  · simp only [List.mem_map, List.mem_filter]
    constructor
    · rintro ⟨j, ⟨hj, hw⟩, rfl⟩
      exact ⟨j, h2 j hj, rfl, hw⟩
    · rintro ⟨j, hj, rfl, hw⟩
      exact ⟨j, ⟨h3 j hj, hw⟩, rfl⟩

theorem NI.start (w : World) (g : Nat) (ax ay r : Int) (wA : World) (hwA : wA = (((w.alloc (.cells #[.pointer (some ⟨g, 0, none⟩)] 82)).alloc (.cells #[.int .i64 ax, .int .i64 ay] 31)).alloc (.cells #[.int .i64 r] 2)).alloc (.cells #[.slice none 0 0] 78)) :
    Up w wA ∧ NI w g ax ay r [] (.slice none 0 0) wA := by
  have huA : Up w wA := by rw [hwA]; exact ((((Up.refl w).alloc _).alloc _).alloc _).alloc _
  refine ⟨huA, ?_⟩
  refine ⟨huA.below, ?_, ?_, ?_, ?_, World.ownsRow_nil _ _ _ _⟩
  · rw [hwA]
    exact hk_alloc (hk_alloc (hk_alloc (heap_alloc_new w _) _) _) _
  · have := heap_alloc_new (w.alloc (.cells #[.pointer (some ⟨g, 0, none⟩)] 82)) (.cells #[.int .i64 ax, .int .i64 ay] 31)
    rw [World.size_alloc] at this
    rw [hwA]
    exact hk_alloc (hk_alloc this _) _
  · have := heap_alloc_new ((w.alloc (.cells #[.pointer (some ⟨g, 0, none⟩)] 82)).alloc (.cells #[.int .i64 ax, .int .i64 ay] 31)) (.cells #[.int .i64 r] 2)
    rw [World.size_alloc, World.size_alloc] at this
    rw [hwA]
    exact hk_alloc this _
  · have := heap_alloc_new (((w.alloc (.cells #[.pointer (some ⟨g, 0, none⟩)] 82)).alloc (.cells #[.int .i64 ax, .int .i64 ay] 31)).alloc (.cells #[.int .i64 r] 2)) (.cells #[.slice none 0 0] 78)
    rw [World.size_alloc, World.size_alloc, World.size_alloc] at this
    rw [hwA]
    exact this

set_option maxRecDepth 100000 in
set_option maxHeartbeats 2000000 in
/-- More cells than are gone over: all places are. -/
theorem near_wide (w : World) (g bp bc base : Nat) (ps : List (Int × Int)) (ce : List (Ent Cell)) (ck : Nat) (ax ay r x0 x1 y0 y1 : Int) (h : GridIs w g bp bc base ps ce ck) (hps : ∀ j, I64 (pAt ps j).1 ∧ I64 (pAt ps j).2)
    (hx : I64 ax) (hy : I64 ay) (hr0 : 0 ≤ r) (hr1 : r < 2147483647) (hl : Room ps.length)
    (hcx : ∀ W : World, W.cell? ⟨g, 0, none⟩ = some (.int .i64 4194304) → Calls Try.prog 75 #[.pointer (some ⟨g, 0, none⟩), .int .i64 ax, .int .i64 r] W fun e w' => e = .returned (.tuple #[.int .i64 x0, .int .i64 x1]) ∧ Up W w')
    (hcy : ∀ W : World, W.cell? ⟨g, 0, none⟩ = some (.int .i64 4194304) → Calls Try.prog 75 #[.pointer (some ⟨g, 0, none⟩), .int .i64 ay, .int .i64 r] W fun e w' => e = .returned (.tuple #[.int .i64 y0, .int .i64 y1]) ∧ Up W w')
    (hw0 : 0 ≤ x1 - x0) (hw1 : x1 - x0 ≤ 100) (hh0 : 0 ≤ y1 - y0) (hh1 : y1 - y0 ≤ 100) (hp0 : 256 < (x1 - x0 + 1) * (y1 - y0 + 1)) (hp1 : (x1 - x0 + 1) * (y1 - y0 + 1) ≤ 100000) :
    Calls Try.prog 46 #[.pointer (some ⟨g, 0, none⟩), .agg #[.int .i64 ax, .int .i64 ay], .int .i64 r] w fun e w' => ∃ l v, e = .returned v ∧ Near ps ax ay r l ∧ w'.ownsRow w.heap.size 3 1 v l.length (l.map cI) ∧ Below w.heap.size w w' := by
  have lg := hk_lt h.hg
  have ng0 : g ≠ w.heap.size := by omega
  have ng1 : g ≠ w.heap.size + 1 := by omega
  have ng2 : g ≠ w.heap.size + 1 + 1 := by omega
  have ng3 : g ≠ w.heap.size + 1 + 1 + 1 := by omega
  have cg0 := hk_cell h.hg 0
  have cg1 := hk_cell h.hg 1
  go_enter Try.func46, Try.ntmps46
  go_wp2_with fail
  obtain ⟨wA, hwA⟩ : ∃ wA, wA = (((w.alloc (.cells #[.pointer (some ⟨g, 0, none⟩)] 82)).alloc (.cells #[.int .i64 ax, .int .i64 ay] 31)).alloc (.cells #[.int .i64 r] 2)).alloc (.cells #[.slice none 0 0] 78) := ⟨_, rfl⟩
  have huA : Up w wA := by rw [hwA]; exact ((((Up.refl w).alloc _).alloc _).alloc _).alloc _
  have hI := (NI.start w g ax ay r wA hwA).2
  have hGA := h.below huA.below
  rw [← hwA]
  have HWA := Lib.hid hwA
  clear hwA cg0 cg1
  refine (hcx wA (hk_cell hGA.hg 0)).mono ?_
  rintro e wB ⟨rfl, huB⟩
  have hIB := hI.up huB
  have hGB := hGA.below huB.below
  have b30 := hk_cell hIB.b3 0
  have b40 := hk_cell hIB.b4 0
  have b41 := hk_cell hIB.b4 1
  have b50 := hk_cell hIB.b5 0
  go_wp2_with fail
  refine (hcy wB (hk_cell hGB.hg 0)).mono ?_
  rintro e wC ⟨rfl, huC⟩
  have hIC := hIB.up huC
  have hGC := hGB.below huC.below
  clear b30 b40 b41 b50
  have b30 := hk_cell hIC.b3 0
  have b40 := hk_cell hIC.b4 0
  have b41 := hk_cell hIC.b4 1
  have b50 := hk_cell hIC.b5 0
  have cg1 := hk_cell hGC.hg 1
  have hrange : ∀ W : World, W.heap[bp]? = some (mapObj intV (placesE ps) ps.length) → (Instr.range 97 (.map (some bp))).run Try.prog W = .ok (.pointer (some ⟨W.heap.size, 0, none⟩)) (W.alloc (.mapIter (some bp) ps.length #[] ps.length)) := fun W hW => run_range_map W _ _ _ bp _ _ Try.underlying97 hW
  have hpC := hGC.hp
  go_wp2_with fail
  have hbC : w.heap.size ≤ wC.heap.size := hIC.bel.size
  clear hrange hpC b30 b40 b41 b50 cg1
  go_loopw [19] (fun _ wr => RelP w g bp wC.heap.size ps ax ay r wr) (fun _ wr => leftM wC.heap.size ps.length wr)
  case atStart => exact ⟨#[], .slice none 0 0, heap_alloc_new _ _, by simp, by simp, (hIC.up ((Up.refl wC).alloc _))⟩
  case round =>
    obtain ⟨seen, v, hR, hnd, hlt, hIr⟩ := hrel
    have hGr := h.below hIr.bel
    rcases run_next_at (P := Try.prog) wr 0 wC.heap.size bp ps.length ps.length seen ((placesE ps).map (Ent.obj intV)).toArray ps.length hR hGr.hp (fun x hx => by obtain ⟨j, hj, rfl⟩ := places_mem hx; exact hj) (Nat.le_refl _) with ⟨hl0, hrun⟩ | ⟨e, he, w1, hww, hrun⟩
    · have b70 := hk_cell hIr.b7 0
      go_wp2
      go_ret
      refine ⟨_, v, rfl, near_of_seen hnd hlt (fun j hj => ?_), hIr.own, hIr.bel⟩
      have hm := leftOf_none hl0 (Ent.obj intV ⟨(j : Int), .agg #[.int .i64 (pAt ps j).1, .int .i64 (pAt ps j).2], j⟩) (by
        simp only [List.mem_map]
        refine ⟨_, List.mem_mapIdx.2 ⟨j, hj, rfl⟩, ?_⟩
        simp [pAt, hj])
      exact hm
    · obtain ⟨hmem, hnot⟩ := mem_leftOf he
      obtain ⟨j, hj, rfl⟩ := places_mem hmem
      have hw1b : w1.heap[wC.heap.size]? = some (.mapIter (some bp) ps.length seen ps.length) := by rcases hww with e | e <;> rw [e] <;> exact hR
      have hu1 : Up wr w1 := by rcases hww with e | e <;> rw [e]; exact Up.refl _; exact (Up.refl _).drew
      obtain ⟨w2, hw2⟩ : ∃ w2, w2 = setBlock w1 wC.heap.size (.mapIter (some bp) ps.length (seen.push j) ps.length) := ⟨_, rfl⟩
      have hI2 : NI w g ax ay r ((seen.toList.filter (wIn ps ax ay r)).map Int.ofNat) v w2 := by rw [hw2]; exact (hIr.up hu1).set hw1b rfl hbC
      have hR2 : w2.heap[wC.heap.size]? = some (.mapIter (some bp) ps.length (seen.push j) ps.length) := by rw [hw2]; exact sb_same (hk_lt hw1b) _
      have hG2 := h.below hI2.bel
      have hent := run_entry_at (P := Try.prog) w2 wC.heap.size bp ps.length seen _ ps.length _ hR2 hG2.hp hmem (places_born ps)
      rw [← hw2] at hrun
      clear hww hw2
      have hlen : Room ((seen.toList.filter (wIn ps ax ay r)).map Int.ofNat).length := by
        have h1 := List.length_filter_le (wIn ps ax ay r) seen.toList
        have h2 := nodup_le hnd hlt
        have h3 := hl.lt
        unfold Room
        rw [List.length_map]
        omega
      have hgb := hk_lt hI2.b7
      go_wp2_with fail
      refine (gather_any w2 g bp w.heap.size (w.heap.size + 1) (w.heap.size + 1 + 1) (w.heap.size + 1 + 1 + 1) w.heap.size ps ax ay r j v _ (hk_cell hI2.b3 0) (hk_cell hG2.hg 1) hG2.hp (hk_cell hI2.b4 0) (hk_cell hI2.b4 1) (hk_cell hI2.b5 0) hI2.b7 hI2.own hI2.bel.size hj hps hx hy (by unfold I64; omega) hlen).mono ?_
      rintro e w3 ⟨rfl, hG3⟩
      have hR3 : w3.heap[wC.heap.size]? = some (.mapIter (some bp) ps.length (seen.push j) ps.length) := by
        obtain ⟨v1, k1, k2, k3, k4⟩ := hG3
        refine k3.at hR2 ?_
        rintro (e | e)
        · have := hk_lt hIC.b7; omega
        · rcases hI2.own.2 with ⟨e1, -⟩ | ⟨gg, cap, cur, e1, -, e2, -⟩
          · rw [e1] at e; cases e
          · rw [e1] at e
            simp [Value.ownBlock] at e
            rw [← e, hR2] at e2
            cases e2
      obtain ⟨v', hI3⟩ := hI2.step hG3
      have HR3 := Lib.hid hR3
      have HR := Lib.hid hR
      clear hR3 hR hR2 hent hrun
      go_wp2_with fail
      go_roundw
      case rel =>
        refine ⟨seen.push j, v', HR3.out, ?_, ?_, ?_⟩
        · rw [Array.toList_push, List.nodup_append]
          refine ⟨hnd, by simp, fun a ha b hb => ?_⟩
          simp at hb
          subst hb
          exact fun e => hnot (e ▸ ha)
        · intro x hx
          rw [Array.toList_push] at hx
          rcases List.mem_append.1 hx with hx | hx
          · exact hlt x hx
          · simp at hx; omega
        · rw [Array.toList_push, List.filter_append, List.map_append]
          have e : (List.filter (wIn ps ax ay r) [j]).map Int.ofNat = if wIn ps ax ay r j then [(j : Int)] else [] := by
            by_cases hw : wIn ps ax ay r j = true
            · simp [hw]
            · simp [hw]
          rw [e]
          exact hI3
      case measure =>
        have h1 := HR3.out
        have h2 := HR.out
        have h4 := nodup_le hnd hlt
        have h5 : seen.size < ps.length := by
          have h6 : (seen.push j).toList.Nodup := by
            rw [Array.toList_push, List.nodup_append]
            refine ⟨hnd, by simp, fun a ha b hb => ?_⟩
            simp at hb
            subst hb
            exact fun e => hnot (e ▸ ha)
          have h7 := nodup_le h6 (fun x hx => by
            rw [Array.toList_push] at hx
            rcases List.mem_append.1 hx with hx | hx
            · exact hlt x hx
            · simp at hx; omega)
          simp at h7
          omega
        simp only [leftM, h1, h2, Array.size_push]
        omega
end Go.Proofs.Ytnjgkgbgmjoceaa
