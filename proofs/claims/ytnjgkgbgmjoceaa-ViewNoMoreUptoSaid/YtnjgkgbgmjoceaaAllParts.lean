/-
  What view.All calls of the library: the sort of numbers, the compacting.
-/
import Derived.Test.YtnjgkgbgmjoceaaEqual
import Derived.Test.YtnjgkgbgmjoceaaShelf2
set_option linter.unusedSimpArgs false
set_option linter.unusedVariables false
namespace Go.Proofs.Ytnjgkgbgmjoceaa
open Go.RowKit Go.ChangeMaps Go.Sort

def sortedL (xs : List Int) : List Int := xs.mergeSort fun x y => decide (x ≤ y)
theorem sortedL_length (xs : List Int) : (sortedL xs).length = xs.length := by unfold sortedL; exact List.length_mergeSort _
theorem sortI_any (w : World) (v : Value) (base : Nat) (xs : List Int) (h : w.ownsRow base 3 1 v xs.length (xs.map cI)) (hsz : xs.length < 4611686018427387904) :
    Calls Try.prog 31 #[v] w fun e w' => e = .returned (.tuple #[]) ∧ w'.ownsRow base 3 1 v xs.length ((sortedL xs).map cI) ∧ w.grownBy w' v.ownBlock := by
  rcases h.2 with ⟨rfl, h0⟩ | ⟨blk, cap, cur, rfl, hb, hg, hc, hm, hz, htk⟩
  · have hx : xs = [] := List.eq_nil_of_length_eq_zero h0
    subst hx
    refine (Any.slices_Sort_int_none Try.sortI none 0 w).mono ?_
    rintro e w' ⟨he, rfl⟩
    exact ⟨he, by simpa [sortedL] using h, ⟨rfl, rfl, rfl, Nat.le_refl _, fun _ _ _ => rfl⟩⟩
  · refine (Any.slices_Sort_int Try.sortI blk 0 cap xs w (own_holds1 h rfl) (hk_lt hg) hsz).mono ?_
    rintro e w' ⟨he, q, os, hw⟩
    have hd : (sortedL xs).toArray.size = xs.length := by simp [sortedL_length]
    obtain ⟨k1, k2, k3⟩ := own_sorted1 (enc := cI) h rfl hd hw
    exact ⟨he, by simpa using k1, k2⟩
theorem own_takeI {w : World} {base n cap g m : Nat} {e : TypeId} {xs : List Value} (h : w.ownsRow base e 1 (.slice (some ⟨g, 0, none⟩) n cap) n xs) (hm : m ≤ n) : w.ownsRow base e 1 (.slice (some ⟨g, 0, none⟩) m cap) m (xs.take m) := by
  obtain ⟨h1, h2⟩ := h
  rcases h2 with ⟨h2, -⟩ | ⟨g', cap', cur, he, hb, hg, hc, hmx, hz, ht⟩
  · simp at h2
  · simp only [Value.slice.injEq, Option.some.injEq, Addr.mk.injEq, and_true, true_and] at he
    obtain ⟨rfl, rfl⟩ := he
    refine ⟨by rw [List.length_take]; omega, .inr ⟨g, cap, cur, rfl, hb, hg, by omega, hmx, hz, ?_⟩⟩
    rw [← ht, List.take_take]
    congr 1
    omega
theorem compact_len (xs : List Int) : (Lib.compact xs).length ≤ xs.length := by
  unfold Lib.compact Lib.compactUpTo
  rw [List.length_map]
  refine Nat.le_trans (List.length_filter_le _ _) ?_
  simp
theorem compactI_any (w : World) (v : Value) (base : Nat) (xs : List Int) (h : w.ownsRow base 3 1 v xs.length (xs.map cI)) (hsz : xs.length < 4611686018427387904) :
    Calls Try.prog 32 #[v] w fun e w' => ∃ v', e = .returned v' ∧ w'.ownsRow base 3 1 v' (Lib.compact xs).length ((Lib.compact xs).map cI) ∧ w.grownBy w' v.ownBlock := by
  rcases h.2 with ⟨rfl, h0⟩ | ⟨blk, cap, cur, rfl, hb, hg, hc, hm, hz, htk⟩
  · have hx : xs = [] := List.eq_nil_of_length_eq_zero h0
    subst hx
    refine (Any.slices_Compact_int_empty Try.compactI none 0 w).mono ?_
    rintro e w' ⟨he, rfl⟩
    exact ⟨_, he, World.ownsRow_nil _ _ _ _, ⟨rfl, rfl, rfl, Nat.le_refl _, fun _ _ _ => rfl⟩⟩
  · refine (Any.slices_Compact_int Try.compactI blk 0 cap xs w (own_holds1 h rfl) (by omega) hc).mono ?_
    rintro e w' ⟨he, q, hw⟩
    have hcl := compact_len xs
    have hd : (Lib.compact xs ++ List.replicate (xs.length - (Lib.compact xs).length) 0).toArray.size = xs.length := by simp; omega
    have hw2 : w' = sortWorld cI w blk 0 q (Lib.compact xs ++ List.replicate (xs.length - (Lib.compact xs).length) 0).toArray #[] := by
      rw [hw]; unfold sortWorld; rw [Go.Sort.grow_empty]; rfl
    obtain ⟨k1, k2, k3⟩ := own_sorted1 (enc := cI) (os := #[]) (q := q) h rfl hd hw2
    have k4 := own_takeI k1 hcl
    refine ⟨_, he, ?_, k2⟩
    rw [← List.map_take] at k4
    have e1 : (Lib.compact xs ++ List.replicate (xs.length - (Lib.compact xs).length) 0).toArray.toList.take (Lib.compact xs).length = Lib.compact xs := by simp
    rw [e1] at k4
    exact k4

def playersOf (cars : List Car) : List Int := Lib.compact (sortedL (cars.map (·.player)))
def encView (tick : Int) (e : Car × Value) : List Value := (viewCells tick e.1 e.2).toList
theorem encView_len (tick : Int) : ∀ e, (encView tick e).length = 16 := fun _ => rfl
theorem info_view : (Try.prog.info? 36).map (fun i => (i.zero, i.size, i.bytes)) = some (some (.agg #[.int .u64 0, .int .i64 0, .string { data := #[] }, .int .i64 0, .int .i64 0, .int .i64 0, .int .i64 0, .int .i64 0, .int .i64 0, .int .i64 0, .int .i64 0, .int .i64 0, .int .i64 0, .int .i64 0, .int .i64 0, .slice none 0 0]), 16, 152) := by kernel_rfl
/-- The first car of a player. -/
def carOf (cars : List Car) (p : Int) : Car := (cars.find? (fun c => decide (c.player = p))).getD ⟨0, ⟨#[]⟩, 0, 0, 0, 0, 0, 0, 0, 0, 0, 0, 0, 0⟩
theorem car_found {cars : List Car} {p : Int} (h : ∃ c ∈ cars, c.player = p) : ∃ k, cars.findIdx? (fun c => decide (c.player = p)) = some k ∧ cars[k]? = some (carOf cars p) ∧ (carOf cars p).player = p := by
  cases hf : cars.findIdx? (fun c => decide (c.player = p)) with
  | none =>
    rw [List.findIdx?_eq_none_iff] at hf
    obtain ⟨c, hc, hp⟩ := h
    have := hf c hc
    simp [hp] at this
  | some k =>
    obtain ⟨h1, h2, h3⟩ := List.findIdx?_eq_some_iff_getElem.1 hf
    have hfi : cars.find? (fun c => decide (c.player = p)) = some cars[k] := by
      rw [List.find?_eq_some_iff_getElem]
      exact ⟨h2, k, h1, rfl, fun j hj => by simpa using h3 j hj⟩
    refine ⟨k, rfl, ?_, ?_⟩
    · unfold carOf
      rw [hfi, List.getElem?_eq_getElem h1]
      rfl
    · unfold carOf
      rw [hfi]
      simpa using h2
theorem compact_mem {xs : List Int} {x : Int} (h : x ∈ Lib.compact xs) : x ∈ xs := by
  unfold Lib.compact Lib.compactUpTo at h
  simp only [List.mem_map, List.mem_filter, List.mem_range] at h
  obtain ⟨j, ⟨hj, _⟩, rfl⟩ := h
  have hs : j < xs.toArray.size := by simpa using hj
  rw [getElem!_pos xs.toArray j hs]
  simp
theorem playersOf_car {cars : List Car} {p : Int} (h : p ∈ playersOf cars) : ∃ c ∈ cars, c.player = p := by
  have h1 := compact_mem h
  have h2 : p ∈ cars.map (·.player) := (List.mergeSort_perm _ _).mem_iff.1 h1
  simpa using h2
theorem playersOf_length (cars : List Car) : (playersOf cars).length ≤ cars.length := by
  have := compact_len (sortedL (cars.map (·.player)))
  rw [sortedL_length, List.length_map] at this
  exact this

/-- The views that are told so far. -/
structure AllI (w : World) (tick : Int) (S : Car → List Seen) (vs : List (Car × Value)) (v : Value) (wr : World) : Prop where
  below : Below w.heap.size w wr
  row : wr.ownsRow w.heap.size 36 16 v vs.length (flat (encView tick) vs)
  own : ∀ e ∈ vs, wr.ownsRow w.heap.size 43 5 e.2 (S e.1).length (flat Seen.enc (S e.1))
  apart : vs.Pairwise (fun a b => a.2.ownBlock = none ∨ a.2.ownBlock ≠ b.2.ownBlock)
theorem own_kp {w w' : World} {S : Nat → Prop} {base : Nat} {e : TypeId} {k n : Nat} {v : Value} {xs : List Value} (h : w.ownsRow base e k v n xs) (hk : Kp S w w') (hs : ∀ g, v.ownBlock = some g → ¬ S g) : w'.ownsRow base e k v n xs := by
  refine ⟨h.1, ?_⟩
  rcases h.2 with hn | ⟨g, cap, cur, rfl, hb, hg, rest⟩
  · exact .inl hn
  · exact .inr ⟨g, cap, cur, rfl, hb, hk.at hg (hs g rfl), rest⟩
theorem own_diff {w : World} {base base' : Nat} {e e' : TypeId} {k k' n n' : Nat} {v v' : Value} {xs xs' : List Value} (h : w.ownsRow base e k v n xs) (h' : w.ownsRow base' e' k' v' n' xs') (hne : e ≠ e') : ∀ g, v.ownBlock = some g → ¬ (some g = v'.ownBlock) := by
  intro g hg
  rcases h.2 with ⟨rfl, -⟩ | ⟨g', cap, cur, rfl, -, hgb, -⟩
  · simp [Value.ownBlock] at hg
  · simp [Value.ownBlock] at hg
    subst hg
    exact own_ne_cells h' hgb (fun e => hne e.symm)
theorem AllI.snoc {w wr wO w3 : World} {tick : Int} {S : Car → List Seen} {vs : List (Car × Value)} {v v3 vN : Value} {own : Car} (h : AllI w tick S vs v wr)
    (hN : wO.ownsRow wr.heap.size 43 5 vN (S own).length (flat Seen.enc (S own))) (hb : Below wr.heap.size wr wO) (kp : Kp (fun b => some b = v.ownBlock) wO w3)
    (h3 : w3.ownsRow w.heap.size 36 16 v3 (vs.length + 1) (flat (encView tick) vs ++ encView tick (own, vN))) : AllI w tick S (vs ++ [(own, vN)]) v3 w3 := by
  have hww := h.below.size
  have k1 : Kp (fun b => wr.heap.size ≤ b) wr wO := Kp.of_below hb
  have k2 : Kp (fun b => wr.heap.size ≤ b ∨ some b = v.ownBlock) wr w3 := (k1.mono (fun b _ h => .inl h)).trans (kp.mono (fun b _ h => .inr h))
  have hrow := own_kp h.row k1 (fun g hg => by have := (h.row.lt g hg).2; omega)
  refine ⟨h.below.trans (k2.below hww ?_), ?_, ?_, ?_⟩
  · rintro b (h1 | h1)
    · omega
    · exact (h.row.lt b h1.symm).1
  · rw [List.length_append, flat_snoc]
    exact h3
  · intro e he
    rcases List.mem_append.1 he with he | he
    · refine own_kp (h.own e he) k2 (fun g hg => ?_)
      rintro (h1 | h1)
      · have := ((h.own e he).lt g hg).2; omega
      · exact own_diff (h.own e he) h.row (by decide) g hg h1
    · obtain rfl : e = (own, vN) := by simpa using he
      exact own_mono (own_kp hN kp (own_diff hN hrow (by decide))) hww
  · rw [List.pairwise_append]
    refine ⟨h.apart, by simp, fun a ha b hb' => ?_⟩
    obtain rfl : b = (own, vN) := by simpa using hb'
    cases hab : a.2.ownBlock with
    | none => exact .inl rfl
    | some g =>
      refine .inr fun e => ?_
      have h1 := ((h.own a ha).lt g hab).2
      have h2 := (hN.lt g e.symm).1
      omega
end Go.Proofs.Ytnjgkgbgmjoceaa
