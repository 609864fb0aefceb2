/-
  What is near, in the grid: over the cells.
-/
import Derived.Test.YtnjgkgbgmjoceaaNear2
set_option linter.unusedSimpArgs false
set_option linter.unusedVariables false
namespace Go.Proofs.Ytnjgkgbgmjoceaa
open Go.RowKit Go.ChangeMaps Go.Sort

def cellL (ps : List (Int × Int)) (ax ay r : Int) (c : Cell) : List Int := (idsOf ps c).filter (fun i => wIn ps ax ay r i.toNat)
def colL (ps : List (Int × Int)) (ax ay r x y0 : Int) (m : Nat) : List Int := (List.range m).flatMap (fun y : Nat => cellL ps ax ay r (x, y0 + y))
def allL (ps : List (Int × Int)) (ax ay r x0 y0 : Int) (h n : Nat) : List Int := (List.range n).flatMap (fun x : Nat => colL ps ax ay r (x0 + x) y0 h)
theorem colL_succ (ps : List (Int × Int)) (ax ay r x y0 : Int) (m : Nat) : colL ps ax ay r x y0 (m + 1) = colL ps ax ay r x y0 m ++ cellL ps ax ay r (x, y0 + m) := by
  simp [colL, List.range_succ]
theorem allL_succ (ps : List (Int × Int)) (ax ay r x0 y0 : Int) (h n : Nat) : allL ps ax ay r x0 y0 h (n + 1) = allL ps ax ay r x0 y0 h n ++ colL ps ax ay r (x0 + n) y0 h := by
  simp [allL, List.range_succ]
theorem mem_idsFrom {ps : List (Int × Int)} {n : Nat} {c : Cell} {i : Int} : i ∈ idsFrom ps n c ↔ ∃ j, j < ps.length ∧ i = ((n + j : Nat) : Int) ∧ cellOf (pAt ps j) = c := by
  induction ps generalizing n with
  | nil => simp [idsFrom]
  | cons p r ih =>
    have key : (i ∈ idsFrom r (n + 1) c) ↔ ∃ j, j < r.length ∧ i = ((n + 1 + j : Nat) : Int) ∧ cellOf (pAt r j) = c := ih
    have shift : (∃ j, j < (p :: r).length ∧ i = ((n + j : Nat) : Int) ∧ cellOf (pAt (p :: r) j) = c) ↔ (i = (n : Int) ∧ cellOf p = c) ∨ ∃ j, j < r.length ∧ i = ((n + 1 + j : Nat) : Int) ∧ cellOf (pAt r j) = c := by
      constructor
      · rintro ⟨j, hj, hi, hc⟩
        cases j with
        | zero => exact .inl ⟨by simpa using hi, by simpa [pAt] using hc⟩
        | succ j => exact .inr ⟨j, by simpa using hj, by rw [hi]; omega, by simpa [pAt] using hc⟩
      · rintro (⟨hi, hc⟩ | ⟨j, hj, hi, hc⟩)
        · exact ⟨0, by simp, by simpa using hi, by simpa [pAt] using hc⟩
        · exact ⟨j + 1, by simpa using hj, by rw [hi]; omega, by simpa [pAt] using hc⟩
    have e : idsFrom (p :: r) n c = if cellOf p = c then (n : Int) :: idsFrom r (n + 1) c else idsFrom r (n + 1) c := rfl
    rw [shift, ← key, e]
    by_cases hc : cellOf p = c
    · rw [if_pos hc, List.mem_cons]; simp [hc]
    · rw [if_neg hc]; simp [hc]
theorem mem_idsOf {ps : List (Int × Int)} {c : Cell} {i : Int} : i ∈ idsOf ps c ↔ ∃ j, j < ps.length ∧ i = (j : Int) ∧ cellOf (pAt ps j) = c := by
  simpa [idsOf] using mem_idsFrom (ps := ps) (n := 0) (c := c) (i := i)
theorem nodup_idsFrom (ps : List (Int × Int)) (n : Nat) (c : Cell) : (idsFrom ps n c).Nodup := by
  induction ps generalizing n with
  | nil => simp [idsFrom]
  | cons p r ih =>
    unfold idsFrom
    split
    · rw [List.nodup_cons]
      refine ⟨fun h => ?_, ih _⟩
      obtain ⟨j, _, h2, _⟩ := mem_idsFrom.1 h
      omega
    · exact ih _
theorem mem_cellL {ps : List (Int × Int)} {ax ay r : Int} {c : Cell} {i : Int} : i ∈ cellL ps ax ay r c ↔ ∃ j, j < ps.length ∧ i = (j : Int) ∧ cellOf (pAt ps j) = c ∧ wIn ps ax ay r j = true := by
  unfold cellL
  rw [List.mem_filter, mem_idsOf]
  constructor
  · rintro ⟨⟨j, h1, rfl, h2⟩, h3⟩
    exact ⟨j, h1, rfl, h2, by simpa using h3⟩
  · rintro ⟨j, h1, rfl, h2, h3⟩
    exact ⟨⟨j, h1, rfl, h2⟩, by simpa using h3⟩
theorem mem_allL {ps : List (Int × Int)} {ax ay r x0 y0 : Int} {h n : Nat} {i : Int} : i ∈ allL ps ax ay r x0 y0 h n ↔ ∃ j, j < ps.length ∧ i = (j : Int) ∧ wIn ps ax ay r j = true ∧ x0 ≤ (cellOf (pAt ps j)).1 ∧ (cellOf (pAt ps j)).1 < x0 + n ∧ y0 ≤ (cellOf (pAt ps j)).2 ∧ (cellOf (pAt ps j)).2 < y0 + h := by
  unfold allL colL
  simp only [List.mem_flatMap, List.mem_range, mem_cellL]
  constructor
  · rintro ⟨x, hx, y, hy, j, h1, h2, h3, h4⟩
    refine ⟨j, h1, h2, h4, ?_⟩
    rw [h3]
    dsimp only
    omega
  · rintro ⟨j, h1, h2, h3, h4, h5, h6, h7⟩
    refine ⟨((cellOf (pAt ps j)).1 - x0).toNat, by omega, ((cellOf (pAt ps j)).2 - y0).toNat, by omega, j, h1, h2, ?_, h3⟩
    refine Prod.ext ?_ ?_
    · show _ = x0 + ((((cellOf (pAt ps j)).1 - x0).toNat : Nat) : Int)
      omega
    · show _ = y0 + ((((cellOf (pAt ps j)).2 - y0).toNat : Nat) : Int)
      omega
theorem nodup_flatMap_of {α β : Type} {l : List α} {f : α → List β} (h1 : ∀ x ∈ l, (f x).Nodup) (h2 : l.Pairwise fun a b => ∀ y, y ∈ f a → y ∉ f b) : (l.flatMap f).Nodup := by
  induction l with
  | nil => simp
  | cons a l ih =>
    rw [List.pairwise_cons] at h2
    rw [List.flatMap_cons, List.nodup_append]
    refine ⟨h1 a (List.mem_cons_self ..), ih (fun x hx => h1 x (List.mem_cons_of_mem _ hx)) h2.2, fun y hy z hz => ?_⟩
    rintro rfl
    obtain ⟨b, hb, hz'⟩ := List.mem_flatMap.1 hz
    exact h2.1 b hb y hy hz'
theorem nodup_allL (ps : List (Int × Int)) (ax ay r x0 y0 : Int) (h n : Nat) : (allL ps ax ay r x0 y0 h n).Nodup := by
  unfold allL
  refine nodup_flatMap_of (fun x _ => ?_) ?_
  · unfold colL
    refine nodup_flatMap_of (fun y _ => (nodup_idsFrom ps 0 _).filter _) ?_
    refine List.pairwise_lt_range.imp fun {a b} hab y hy hy' => ?_
    obtain ⟨j, _, e1, e2, _⟩ := mem_cellL.1 hy
    obtain ⟨j', _, e3, e4, _⟩ := mem_cellL.1 hy'
    have : j = j' := by omega
    subst this
    rw [e2] at e4
    have := congrArg Prod.snd e4
    simp at this
    omega
  · refine List.pairwise_lt_range.imp fun {a b} hab y hy hy' => ?_
    unfold colL at hy hy'
    obtain ⟨m, _, hm⟩ := List.mem_flatMap.1 hy
    obtain ⟨m', _, hm'⟩ := List.mem_flatMap.1 hy'
    obtain ⟨j, _, e1, e2, _⟩ := mem_cellL.1 hm
    obtain ⟨j', _, e3, e4, _⟩ := mem_cellL.1 hm'
    have : j = j' := by omega
    subst this
    rw [e2] at e4
    have := congrArg Prod.fst e4
    simp at this
    omega

/-- Within r: within r along each axis. -/
theorem dist_axis {ax ay bx cy r : Int} (h0 : 0 ≤ r) (h1 : r < 2147483647) (h : withinB ax ay bx cy r = true) : bx - ax ≤ r ∧ -r ≤ bx - ax ∧ cy - ay ≤ r ∧ -r ≤ cy - ay := by
  unfold withinB at h
  have h2 : dist2 ax ay bx cy ≤ r * r := by
    have e : decide (3037000500 ≤ r) = false := by simp; omega
    rw [e] at h
    simpa [h0] using h
  unfold dist2 at h2
  have p1 := (sq_range (bnd_range (bx - ax))).1
  have p2 := (sq_range (bnd_range (cy - ay))).1
  have key : ∀ d : Int, bnd d * bnd d ≤ r * r → d ≤ r ∧ -r ≤ d := by
    intro d hd
    have q1 : bnd d ≤ r := by
      rcases Int.lt_or_le r (bnd d) with h | h
      · have : r * r < bnd d * bnd d := by
          calc r * r ≤ r * bnd d := Int.mul_le_mul_of_nonneg_left (by omega) h0
            _ < bnd d * bnd d := Int.mul_lt_mul_of_pos_right h (by omega)
        omega
      · exact h
    have q2 : -r ≤ bnd d := by
      rcases Int.lt_or_le (bnd d) (-r) with h | h
      · have : r * r < bnd d * bnd d := by
          have e : bnd d * bnd d = -bnd d * -bnd d := by rw [Int.neg_mul_neg]
          rw [e]
          calc r * r ≤ r * -bnd d := Int.mul_le_mul_of_nonneg_left (by omega) h0
            _ < -bnd d * -bnd d := Int.mul_lt_mul_of_pos_right (by omega) (by omega)
        omega
      · exact h
    unfold bnd at q1 q2
    omega
  have k1 := key (bx - ax) (by omega)
  have k2 := key (cy - ay) (by omega)
  omega

/-- The cells that are gone over hold all that is near. -/
theorem near_allL {ps : List (Int × Int)} {ax ay r : Int} (h0 : 0 ≤ r) (h1 : r < 2147483647) (hps : ∀ j, I64 (pAt ps j).1 ∧ I64 (pAt ps j).2) {h n : Nat}
    (hn : (n : Int) = sata ax r / 4194304 - satd ax r / 4194304 + 1) (hh : (h : Int) = sata ay r / 4194304 - satd ay r / 4194304 + 1) : Near ps ax ay r (allL ps ax ay r (satd ax r / 4194304) (satd ay r / 4194304) h n) := by
  refine ⟨nodup_allL .., fun i => ?_⟩
  rw [mem_allL]
  constructor
  · rintro ⟨j, a, b, c, _⟩
    exact ⟨j, a, b, c⟩
  · rintro ⟨j, a, b, c⟩
    refine ⟨j, a, b, c, ?_⟩
    have hd := dist_axis h0 h1 c
    obtain ⟨p1, p2⟩ := hps j
    unfold I64 at p1 p2
    unfold cellOf sata satd at *
    dsimp only
    omega

/-- A row of the grid's, as the walk reads it. -/
theorem GridIs.look {w0 : World} {g bp bc base : Nat} {ps : List (Int × Int)} {ce : List (Ent Cell)} {ck : Nat} (h : GridIs w0 g bp bc base ps ce ck) (x y : Int) :
    ∃ A cap, (∀ W : World, W.heap[bc]? = some (mapObj (fun c : Cell => Value.agg (cellA c)) ce ck) → (Instr.lookup 98 (.map (some bc)) (.agg #[.int .i64 x, .int .i64 y]) false).run Try.prog W = .ok (.slice A (idsOf ps (x, y)).length cap) W) ∧
      (0 < (idsOf ps (x, y)).length → ∃ gg, A = some ⟨gg, 0, none⟩ ∧ gg < w0.heap.size ∧ ∀ W : World, W.heap[gg]? = w0.heap[gg]? → ∀ k, k < (idsOf ps (x, y)).length → W.cell? ⟨gg, k, none⟩ = some (.int .i64 ((idsOf ps (x, y)).getD k 0))) := by
  cases hat : atE (x, y) ce with
  | none =>
    refine ⟨none, 0, fun W hW => ?_, fun hl => ?_⟩
    · have := run_lookup_E cellKeys Try.underlying98 (zeroInts W) hW (x, y) false
      rw [hat] at this
      rw [h.full _ hat]
      exact this
    · rw [h.full _ hat] at hl; simp at hl
  | some v =>
    obtain ⟨hr, hn⟩ := h.row _ v hat
    rcases hr.2 with ⟨e, -⟩ | ⟨gg, cap, cur, e, hb, hg, hc, hm, hz, ht⟩
    · rw [e] at hn; exact absurd rfl hn
    · refine ⟨some ⟨gg, 0, none⟩, cap, fun W hW => ?_, fun _ => ⟨gg, rfl, hk_lt hg, fun W hW k hk => ?_⟩⟩
      · have := run_lookup_E cellKeys Try.underlying98 (zeroInts W) hW (x, y) false
        rw [hat, e] at this
        exact this
      · have hg' : W.heap[gg]? = some (.cells cur 3 (0, 0)) := hW.trans hg
        rw [hk_cell hg' k]
        have e2 : cur.toList[k]? = ((idsOf ps (x, y)).map cI)[k]? := by
          rw [← ht, List.getElem?_take, if_pos (by omega)]
        rw [Array.getElem?_toList, List.getElem?_map, List.getElem?_eq_getElem hk] at e2
        rw [e2, List.getD_eq_getElem?_getD, List.getElem?_eq_getElem hk]
        rfl

theorem colL_mono (ps : List (Int × Int)) (ax ay r x y0 : Int) (m d : Nat) : (colL ps ax ay r x y0 m).length ≤ (colL ps ax ay r x y0 (m + d)).length := by
  induction d with
  | zero => exact Nat.le_refl _
  | succ d ih => rw [← Nat.add_assoc, colL_succ, List.length_append]; omega
theorem hroomk (ps : List (Int × Int)) (ax ay r x0 y0 : Int) (h n m k : Nat) (hr : ∀ n m, Room (allL ps ax ay r x0 y0 m n).length) (hm : m < h) :
    Room (allL ps ax ay r x0 y0 h n ++ colL ps ax ay r (x0 + n) y0 m ++ ((idsOf ps (x0 + n, y0 + m)).take k).filter (fun i => wIn ps ax ay r i.toNat)).length := by
  have h1 := (hr (n + 1) h).lt
  rw [allL_succ, List.length_append] at h1
  have h2 : (colL ps ax ay r (x0 + n) y0 (m + 1)).length ≤ (colL ps ax ay r (x0 + n) y0 h).length := by
    obtain ⟨d, rfl⟩ : ∃ d, h = (m + 1) + d := ⟨h - (m + 1), by omega⟩
    exact colL_mono ps ax ay r (x0 + n) y0 (m + 1) d
  rw [colL_succ, List.length_append] at h2
  have h3 : (((idsOf ps (x0 + n, y0 + m)).take k).filter (fun i => wIn ps ax ay r i.toNat)).length ≤ (cellL ps ax ay r (x0 + n, y0 + m)).length := by
    unfold cellL
    exact List.Sublist.length_le ((List.take_sublist k _).filter _)
  unfold Room
  rw [List.length_append, List.length_append]
  omega

set_option maxRecDepth 100000 in
set_option maxHeartbeats 4000000 in
/-- Few cells: they are gone over. -/
theorem near_few (w : World) (g bp bc base : Nat) (ps : List (Int × Int)) (ce : List (Ent Cell)) (ck : Nat) (ax ay r x0 x1 y0 y1 : Int) (h : GridIs w g bp bc base ps ce ck) (hps : ∀ j, I64 (pAt ps j).1 ∧ I64 (pAt ps j).2)
    (hx : I64 ax) (hy : I64 ay) (hr0 : 0 ≤ r) (hr1 : r < 2147483647) (hl : Room ps.length) (hx0 : -4398046511104 ≤ x0) (hx1 : x0 ≤ 4398046511104) (hy0 : -4398046511104 ≤ y0) (hy1 : y0 ≤ 4398046511104)
    (hcx : ∀ W : World, W.cell? ⟨g, 0, none⟩ = some (.int .i64 4194304) → Calls Try.prog 75 #[.pointer (some ⟨g, 0, none⟩), .int .i64 ax, .int .i64 r] W fun e w' => e = .returned (.tuple #[.int .i64 x0, .int .i64 x1]) ∧ Up W w')
    (hcy : ∀ W : World, W.cell? ⟨g, 0, none⟩ = some (.int .i64 4194304) → Calls Try.prog 75 #[.pointer (some ⟨g, 0, none⟩), .int .i64 ay, .int .i64 r] W fun e w' => e = .returned (.tuple #[.int .i64 y0, .int .i64 y1]) ∧ Up W w')
    (hw0 : 0 ≤ x1 - x0) (hw1 : x1 - x0 ≤ 100) (hh0 : 0 ≤ y1 - y0) (hh1 : y1 - y0 ≤ 100) (hp0 : (x1 - x0 + 1) * (y1 - y0 + 1) ≤ 256) (hp1 : 0 ≤ (x1 - x0 + 1) * (y1 - y0 + 1))
    (hroom : ∀ n m, Room (allL ps ax ay r x0 y0 m n).length) :
    Calls Try.prog 46 #[.pointer (some ⟨g, 0, none⟩), .agg #[.int .i64 ax, .int .i64 ay], .int .i64 r] w fun e w' => ∃ v, e = .returned v ∧ w'.ownsRow w.heap.size 3 1 v (allL ps ax ay r x0 y0 (y1 - y0 + 1).toNat (x1 - x0 + 1).toNat).length ((allL ps ax ay r x0 y0 (y1 - y0 + 1).toNat (x1 - x0 + 1).toNat).map cI) ∧ Below w.heap.size w w' := by
  have lg := hk_lt h.hg
  have ng0 : g ≠ w.heap.size := by omega
  have ng1 : g ≠ w.heap.size + 1 := by omega
  have ng2 : g ≠ w.heap.size + 1 + 1 := by omega
  have ng3 : g ≠ w.heap.size + 1 + 1 + 1 := by omega
  go_enter Try.func46, Try.ntmps46
  go_wp2_with fail
  obtain ⟨wA, hwA⟩ : ∃ wA, wA = (((w.alloc (.cells #[.pointer (some ⟨g, 0, none⟩)] 82)).alloc (.cells #[.int .i64 ax, .int .i64 ay] 31)).alloc (.cells #[.int .i64 r] 2)).alloc (.cells #[.slice none 0 0] 78) := ⟨_, rfl⟩
  obtain ⟨huA, hI⟩ := NI.start w g ax ay r wA hwA
  have hGA := h.below huA.below
  rw [← hwA]
  clear hwA
  refine (hcx wA (hk_cell hGA.hg 0)).mono ?_
  rintro e wB ⟨rfl, huB⟩
  have hIB := hI.up huB
  have hGB := hGA.below huB.below
  have b30 := hk_cell hIB.b3 0
  have b40 := hk_cell hIB.b4 0
  have b41 := hk_cell hIB.b4 1
  have b50 := hk_cell hIB.b5 0
  go_wp2_with fail
  refine (hcy wB (hk_cell hGB.hg 0)).mono ?_
  rintro e wC ⟨rfl, huC⟩
  have hIC := hIB.up huC
  clear b30 b40 b41 b50 hcx hcy
  go_wp2_with fail
  go_loopw [65] (fun c wr => ∃ n : Nat, c = .int .i64 n ∧ (n : Int) ≤ x1 - x0 + 1 ∧ ∃ v, NI w g ax ay r (allL ps ax ay r x0 y0 (y1 - y0 + 1).toNat n) v wr) (fun c _ => (x1 - x0 + 1 - intOf c).toNat)
  case atStart => exact ⟨0, by simp, by omega, _, hIC⟩
  case round =>
    obtain ⟨n, rfl, hn, v, hIn⟩ := hrel
    by_cases hlt : (n : Int) < x1 - x0 + 1
    · go_wp2_with fail
      obtain ⟨wo, rfl⟩ : ∃ wo : World, wo = wr := ⟨_, rfl⟩
      go_loopw [70] (fun c wr => ∃ m : Nat, c = .int .i64 m ∧ (m : Int) ≤ y1 - y0 + 1 ∧ ∃ v, NI w g ax ay r (allL ps ax ay r x0 y0 (y1 - y0 + 1).toNat n ++ colL ps ax ay r (x0 + n) y0 m) v wr) (fun c _ => (y1 - y0 + 1 - intOf c).toNat)
      case atStart => exact ⟨0, by simp, by omega, v, by simpa [colL] using hIn⟩
      case round =>
        obtain ⟨m, rfl, hm, v2, hIm⟩ := hrel
        by_cases hlm : (m : Int) < y1 - y0 + 1
        · have hGm := h.below hIm.bel
          obtain ⟨A, cap, hlook, hread⟩ := h.look (x0 + n) (y0 + m)
          have b30 := hk_cell hIm.b3 0
          have cg2 := hk_cell hGm.hg 2
          have hcm := hGm.hc
          have hlen : (idsOf ps (x0 + n, y0 + m)).length ≤ 1099511627776 := by have h1 := idsFrom_length ps 0 (x0 + n, y0 + m); have h2 := hl.lt; unfold idsOf; omega
          go_wp2_with fail
          obtain ⟨wi, rfl⟩ : ∃ wi : World, wi = wr := ⟨_, rfl⟩
          clear hlook b30 cg2 hcm
          go_loopw [86] (fun c wr => ∃ k : Nat, c = .int .i64 k ∧ k ≤ (idsOf ps (x0 + n, y0 + m)).length ∧ ∃ v, NI w g ax ay r (allL ps ax ay r x0 y0 (y1 - y0 + 1).toNat n ++ colL ps ax ay r (x0 + n) y0 m ++ ((idsOf ps (x0 + n, y0 + m)).take k).filter (fun i => wIn ps ax ay r i.toNat)) v wr) (fun c _ => (idsOf ps (x0 + n, y0 + m)).length - (intOf c).toNat)
          case atStart => exact ⟨0, by simp, by omega, v2, by simpa using hIm⟩
          case round =>
            obtain ⟨k, rfl, hk, v3, hIk⟩ := hrel
            by_cases hlk : k < (idsOf ps (x0 + n, y0 + m)).length
            · obtain ⟨gg, rfl, hgl, hcells⟩ := hread (by omega)
              have hck := hcells wr (hIk.bel.block gg hgl) k hlk
              obtain ⟨j, hj, hjk⟩ : ∃ j : Nat, j < ps.length ∧ (idsOf ps (x0 + n, y0 + m)).getD k 0 = (j : Int) := by
                have hm : (idsOf ps (x0 + n, y0 + m)).getD k 0 ∈ idsOf ps (x0 + n, y0 + m) := by
                  rw [List.getD_eq_getElem?_getD, List.getElem?_eq_getElem hlk]
                  exact List.getElem_mem hlk
                obtain ⟨j, h1, h2, _⟩ := mem_idsOf.1 hm
                exact ⟨j, h1, h2⟩
              have htk : (idsOf ps (x0 + n, y0 + m)).take (k + 1) = (idsOf ps (x0 + n, y0 + m)).take k ++ [(j : Int)] := by
                rw [List.take_succ_eq_append_getElem hlk, ← hjk, List.getD_eq_getElem?_getD, List.getElem?_eq_getElem hlk]
                rfl
              rw [hjk] at hck
              have HTK := Lib.hid htk
              have hGk := h.below hIk.bel
              have hrm := hroomk ps ax ay r x0 y0 (y1 - y0 + 1).toNat n m k hroom (by omega)
              clear htk hjk hread hcells
              go_wp2_with fail
              refine (gather_any wr g bp w.heap.size (w.heap.size + 1) (w.heap.size + 1 + 1) (w.heap.size + 1 + 1 + 1) w.heap.size ps ax ay r j v3 _ (hk_cell hIk.b3 0) (hk_cell hGk.hg 1) hGk.hp (hk_cell hIk.b4 0) (hk_cell hIk.b4 1) (hk_cell hIk.b5 0) hIk.b7 hIk.own hIk.bel.size hj hps hx hy (by unfold I64; omega) hrm).mono ?_
              rintro e w3 ⟨rfl, hG3⟩
              obtain ⟨v', hI3⟩ := hIk.step hG3
              go_wp2_with fail
              go_roundw
              case rel =>
                refine ⟨k + 1, by go_num, by omega, v', ?_⟩
                rw [HTK.out, List.filter_append, ← List.append_assoc]
                have e : (List.filter (fun i : Int => wIn ps ax ay r i.toNat) [(j : Int)]) = if wIn ps ax ay r j then [(j : Int)] else [] := by
                  by_cases hw : wIn ps ax ay r j = true
                  · simp [hw]
                  · simp [hw]
                rw [e]
                exact hI3
              case measure => simp [intOf]; omega
            · have e : k = (idsOf ps (x0 + n, y0 + m)).length := by omega
              have HE := Lib.hid e
              clear e
              go_wp2_with fail
              go_roundw
              case rel =>
                refine ⟨m + 1, by go_num, by omega, v3, ?_⟩
                have hI2 := hIk
                rw [HE.out, List.take_length] at hI2
                rw [colL_succ, ← List.append_assoc]
                exact hI2
              case measure => simp [intOf]; omega
        · have e : m = (y1 - y0 + 1).toNat := by omega
          have HE := Lib.hid e
          clear e
          go_wp2_with fail
          go_roundw
          case rel =>
            refine ⟨n + 1, by go_num, by omega, v2, ?_⟩
            have hI2 := hIm
            rw [HE.out] at hI2
            rw [allL_succ]
            exact hI2
          case measure => simp [intOf]; omega
    · have b70 := hk_cell hIn.b7 0
      have e : n = (x1 - x0 + 1).toNat := by omega
      have hII := hIn
      rw [e] at hII
      have HE := Lib.hid e
      clear e
      go_wp2
      go_ret
      exact ⟨v, rfl, hII.own, hII.bel⟩

/-- What is near, in no order. -/
theorem near_any (w : World) (g bp bc base : Nat) (ps : List (Int × Int)) (ce : List (Ent Cell)) (ck : Nat) (ax ay r : Int) (h : GridIs w g bp bc base ps ce ck) (hps : ∀ j, I64 (pAt ps j).1 ∧ I64 (pAt ps j).2)
    (hx : I64 ax) (hy : I64 ay) (hr0 : 0 ≤ r) (hr1 : r ≤ 67108864) (hl : Room ps.length) :
    Calls Try.prog 46 #[.pointer (some ⟨g, 0, none⟩), .agg #[.int .i64 ax, .int .i64 ay], .int .i64 r] w fun e w' => ∃ l v, e = .returned v ∧ Near ps ax ay r l ∧ w'.ownsRow w.heap.size 3 1 v l.length (l.map cI) ∧ Below w.heap.size w w' := by
  have bx : 0 ≤ sata ax r / 4194304 - satd ax r / 4194304 ∧ sata ax r / 4194304 - satd ax r / 4194304 ≤ 100 ∧ -4398046511104 ≤ satd ax r / 4194304 ∧ satd ax r / 4194304 ≤ 4398046511104 := by
    unfold I64 at hx
    unfold sata satd
    omega
  have byy : 0 ≤ sata ay r / 4194304 - satd ay r / 4194304 ∧ sata ay r / 4194304 - satd ay r / 4194304 ≤ 100 ∧ -4398046511104 ≤ satd ay r / 4194304 ∧ satd ay r / 4194304 ≤ 4398046511104 := by
    unfold I64 at hy
    unfold sata satd
    omega
  have hcx := fun (W : World) (hW : W.cell? ⟨g, 0, none⟩ = some (.int .i64 4194304)) => span_any g ax r W hW hx hr0 (by omega)
  have hcy := fun (W : World) (hW : W.cell? ⟨g, 0, none⟩ = some (.int .i64 4194304)) => span_any g ay r W hW hy hr0 (by omega)
  have hnear := fun h n => near_allL (ps := ps) (ax := ax) (ay := ay) (r := r) hr0 (by omega) hps (h := h) (n := n)
  obtain ⟨p1, p2, p3, p4⟩ := bx
  obtain ⟨q1, q2, q3, q4⟩ := byy
  have hroom : ∀ n m, Room (allL ps ax ay r (satd ax r / 4194304) (satd ay r / 4194304) m n).length := fun n m => by
    have h1 := List.Nodup.length_le_of_subset (l₂ := (List.range ps.length).map Int.ofNat) (nodup_allL ps ax ay r (satd ax r / 4194304) (satd ay r / 4194304) m n) (fun x hx => by
      obtain ⟨j, a, b, _⟩ := mem_allL.1 hx
      exact List.mem_map.2 ⟨j, List.mem_range.2 a, b.symm⟩)
    have h2 := hl.lt
    simp at h1
    unfold Room
    omega
  generalize satd ax r / 4194304 = x0 at *
  generalize sata ax r / 4194304 = x1 at *
  generalize satd ay r / 4194304 = y0 at *
  generalize sata ay r / 4194304 = y1 at *
  have hp1 : 0 ≤ (x1 - x0 + 1) * (y1 - y0 + 1) := Int.mul_nonneg (by omega) (by omega)
  have hp2 : (x1 - x0 + 1) * (y1 - y0 + 1) ≤ 101 * 101 := Int.mul_le_mul (by omega) (by omega) (by omega) (by omega)
  by_cases hp0 : (x1 - x0 + 1) * (y1 - y0 + 1) ≤ 256
  · refine (near_few w g bp bc base ps ce ck ax ay r x0 x1 y0 y1 h hps hx hy hr0 (by omega) hl p3 p4 q3 q4 hcx hcy p1 p2 q1 q2 hp0 hp1 hroom).mono fun e w' ⟨v, he, ho, hb⟩ => ?_
    exact ⟨_, v, he, hnear _ _ (by omega) (by omega), ho, hb⟩
  · exact near_wide w g bp bc base ps ce ck ax ay r x0 x1 y0 y1 h hps hx hy hr0 (by omega) hl hcx hcy p1 p2 q1 q2 (by omega) (by omega)

def nearL (ps : List (Int × Int)) (ax ay r : Int) : List Int := ((List.range ps.length).filter (wIn ps ax ay r)).map Int.ofNat
theorem isort_near {ps : List (Int × Int)} {ax ay r : Int} {l : List Int} (h : Near ps ax ay r l) : isort (ltOf cmpI) l = nearL ps ax ay r := by
  have hp : l.Perm (nearL ps ax ay r) := by
    refine (List.perm_ext_iff_of_nodup h.1 ?_).2 fun i => ?_
    · exact List.Pairwise.map Int.ofNat (fun a b h e => h (Int.ofNat.inj e)) (List.nodup_range.filter _)
    · rw [h.2]
      unfold nearL
      simp only [List.mem_map, List.mem_filter, List.mem_range]
      constructor
      · rintro ⟨j, a, rfl, b⟩
        exact ⟨j, ⟨a, b⟩, rfl⟩
      · rintro ⟨j, ⟨a, b⟩, rfl⟩
        exact ⟨j, a, rfl, b⟩
  have hs : (nearL ps ax ay r).Pairwise (fun a b => ltOf cmpI b a = false) := by
    unfold nearL
    refine List.Pairwise.map Int.ofNat (R := fun a b => a < b) (fun a b hab => ?_) (List.pairwise_lt_range.filter _)
    rw [ltI_eq]
    simp
    omega
  exact (sorted_isort swoI hp.symm hs (fun a _ b _ h1 h2 => by rw [ltI_eq] at h1 h2; simp at h1 h2; omega)).symm

set_option maxRecDepth 100000 in
set_option maxHeartbeats 1000000 in
/-- Near: what is near, rising. -/
theorem Near_any (w : World) (g bp bc base : Nat) (ps : List (Int × Int)) (ce : List (Ent Cell)) (ck : Nat) (ax ay r : Int) (h : GridIs w g bp bc base ps ce ck) (hps : ∀ j, I64 (pAt ps j).1 ∧ I64 (pAt ps j).2)
    (hx : I64 ax) (hy : I64 ay) (hr0 : 0 ≤ r) (hr1 : r ≤ 67108864) (hl : Room ps.length) :
    Calls Try.prog 36 #[.pointer (some ⟨g, 0, none⟩), .agg #[.int .i64 ax, .int .i64 ay], .int .i64 r] w fun e w' => ∃ v, e = .returned v ∧ w'.ownsRow w.heap.size 3 1 v (nearL ps ax ay r).length ((nearL ps ax ay r).map cI) ∧ Below w.heap.size w w' := by
  have h0 := h.up ((Up.refl w).alloc (.cells #[.int .i64 ax, .int .i64 ay] 31))
  have hc := near_any _ g bp bc base ps ce ck ax ay r h0 hps hx hy hr0 hr1 hl
  go_enter Try.func36, Try.ntmps36
  go_wp2_with fail
  refine hc.mono ?_
  rintro e w1 ⟨l, v, rfl, hn, ho, hb⟩
  have hi := isort_near hn
  have hlen : l.length < 4611686018427387904 := by
    have h1 := List.Nodup.length_le_of_subset (l₂ := (List.range ps.length).map Int.ofNat) hn.1 (fun x hx => by
      obtain ⟨j, a, b, _⟩ := (hn.2 x).1 hx
      exact List.mem_map.2 ⟨j, List.mem_range.2 a, b.symm⟩)
    have h2 := hl.lt
    simp at h1
    omega
  have hb1 : Below w.heap.size w w1 := (Up.below ((Up.refl w).alloc (.cells #[.int .i64 ax, .int .i64 ay] 31))).trans (hb.mono (by simp))
  have HL := Lib.hid hlen
  clear hlen
  go_wp2_with fail
  refine (sorted_own w1 v _ l ho HL.out).mono ?_
  rintro e w2 ⟨rfl, ho2, hg2, hd2⟩
  rw [hi] at ho2
  have hll : (nearL ps ax ay r).length = l.length := by rw [← hi]; exact (isort_perm _ l).length_eq
  rw [← hll] at ho2
  have HLL := Lib.hid hll
  clear hll hi
  go_wp2_with fail
  go_ret
  refine ⟨v, rfl, ?_, ?_⟩
  · refine ⟨ho2.1, ?_⟩
    rcases ho2.2 with h | ⟨gg, cap, cur, e, hbb, rest⟩
    · exact .inl h
    · exact .inr ⟨gg, cap, cur, e, Nat.le_trans (by simp) hbb, rest⟩
  · exact hb1.grown hg2 hb1.size (fun k hk => Nat.le_trans (by simp) (ho.lt k hk).1)
end Go.Proofs.Ytnjgkgbgmjoceaa
