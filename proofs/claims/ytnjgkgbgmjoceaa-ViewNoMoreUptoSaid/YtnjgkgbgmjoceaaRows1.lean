/-
  Rows of elements of k cells: what a sort leaves of a row of the call's own.
-/
import Derived.Test.YtnjgkgbgmjoceaaBase
import Derived.Shelf.SlSortCmp.WholeK
import Derived.Shelf.SlSortCmp.Whole1
import Derived.Shelf.SlSortCmp.NoneTotal
set_option linter.unusedSimpArgs false
set_option linter.unusedVariables false
namespace Go.Proofs.Ytnjgkgbgmjoceaa
open Go.RowKit Go.Sort

/-- The cells of a list's elements, one behind the other. -/
def flat {α : Type} (enc : α → List Value) (xs : List α) : List Value := xs.flatMap enc
theorem flat_nil {α : Type} (enc : α → List Value) : flat enc [] = [] := rfl
theorem flat_cons {α : Type} (enc : α → List Value) (x : α) (xs : List α) : flat enc (x :: xs) = enc x ++ flat enc xs := rfl
theorem flat_append {α : Type} (enc : α → List Value) (xs ys : List α) : flat enc (xs ++ ys) = flat enc xs ++ flat enc ys := by simp [flat]
theorem flat_snoc {α : Type} (enc : α → List Value) (xs : List α) (y : α) : flat enc (xs ++ [y]) = flat enc xs ++ enc y := by simp [flat]
theorem flat_length {α : Type} {enc : α → List Value} {k : Nat} (hk : ∀ x, (enc x).length = k) (xs : List α) : (flat enc xs).length = xs.length * k := by
  induction xs with
  | nil => simp [flat]
  | cons x xs ih => rw [flat_cons, List.length_append, ih, hk, List.length_cons, Nat.add_mul, Nat.one_mul, Nat.add_comm]
theorem flat_get {α : Type} {enc : α → List Value} {k : Nat} (hk : ∀ x, (enc x).length = k) (xs : List α) (i j : Nat) (x : α) (hx : xs[i]? = some x) (hj : j < k) : (flat enc xs)[i * k + j]? = (enc x)[j]? := by
  induction xs generalizing i with
  | nil => simp at hx
  | cons y ys ih =>
    rw [flat_cons]
    cases i with
    | zero =>
      obtain rfl : y = x := by simpa using hx
      rw [List.getElem?_append_left (by rw [hk]; omega)]
      simp
    | succ i =>
      have hx' : ys[i]? = some x := by simpa using hx
      rw [List.getElem?_append_right (by rw [hk, Nat.add_mul]; omega), ← ih i hx', hk]
      congr 1
      rw [Nat.add_mul]
      omega
/-- The whole list of a row that holds an array. -/
theorem flatK_flat {α : Type} [Inhabited α] {enc : α → List Value} {k : Nat} (hk : ∀ x, (enc x).length = k) (d : Array α) : (flatK enc k d).toList = flat enc d.toList := by
  rcases Nat.eq_zero_or_pos k with h0 | h0
  · subst h0
    have e1 : (flatK enc 0 d).toList = [] := by
      apply List.eq_nil_of_length_eq_zero
      rw [Array.length_toList, size_flatK]
      omega
    have e2 : flat enc d.toList = [] := List.eq_nil_of_length_eq_zero (by rw [flat_length hk]; omega)
    rw [e1, e2]
  · refine List.ext_getElem? fun t => ?_
    by_cases ht : t < d.size * k
    · have hq : t / k < d.size := by rw [Nat.div_lt_iff_lt_mul h0]; exact ht
      have hm : t % k < k := Nat.mod_lt _ h0
      have hx : d.toList[t / k]? = some d[t / k]! := by
        rw [Array.getElem?_toList, Array.getElem?_eq_getElem hq, getElem!_pos d _ hq]
      have e := flat_get hk d.toList (t / k) (t % k) _ hx hm
      have et : t / k * k + t % k = t := by rw [Nat.mul_comm]; exact Nat.div_add_mod t k
      rw [et] at e
      rw [e, Array.getElem?_toList, Array.getElem?_eq_getElem (by simpa using ht)]
      have hg := get_flatK enc k d t ht
      rw [getElem!_pos _ _ (by simpa using ht)] at hg
      rw [hg, getElem!_pos _ _ (by rw [hk]; exact hm), List.getElem?_eq_getElem (by rw [hk]; exact hm)]
    · rw [List.getElem?_eq_none (by rw [Array.length_toList, size_flatK]; omega), List.getElem?_eq_none (by rw [flat_length hk, Array.length_toList]; omega)]

section
variable {α : Type} [Inhabited α] {enc : α → List Value} {k : Nat} {w w' : World} {base g n cap : Nat} {e : TypeId}

/-- A row of one's own, in the sort's words. -/
theorem own_holdsK (hk : ∀ x, (enc x).length = k) {xs : List α} (h : w.ownsRow base e k (.slice (some ⟨g, 0, none⟩) n cap) n (flat enc xs)) (hn : xs.length = n) : HoldsK enc k w g 0 xs.toArray := by
  intro j hj
  have hs : (flatK enc k xs.toArray).size = n * k := by rw [size_flatK]; simp [hn]
  have hj' : j < n * k := by omega
  refine ⟨?_, ?_⟩
  · have e1 : (flat enc xs)[j]? = some (flatK enc k xs.toArray)[j]! := by
      have e2 := flatK_flat hk xs.toArray
      have e3 : flat enc xs = (flatK enc k xs.toArray).toList := e2.symm
      rw [e3, Array.getElem?_toList, Array.getElem?_eq_getElem hj, getElem!_pos (flatK enc k xs.toArray) j hj]
    rw [Nat.zero_add, h.cellAt j hj', e1]
    rfl
  · rw [Nat.zero_add]; exact h.frozenAt j

/-- What the sort leaves. -/
theorem own_sortedK (hk : ∀ x, (enc x).length = k) {xs : List α} (h : w.ownsRow base e k (.slice (some ⟨g, 0, none⟩) n cap) n (flat enc xs)) (hn : xs.length = n) {d' : Array α} (hd : d'.size = n) {q : Nat} {os : Array Obj}
    (hw : w' = sortWorldK enc k w g 0 q d' os) : w'.ownsRow base e k (.slice (some ⟨g, 0, none⟩) n cap) n (flat enc d'.toList) ∧ w.grownBy w' (some g) ∧ w.drawn ≤ w'.drawn := by
  subst hw
  obtain ⟨h1, h2⟩ := h
  rcases h2 with ⟨h2, -⟩ | ⟨g', cap', cur, he, hb, hg, hc, hm, hz, ht⟩
  · simp at h2
  · simp only [Value.slice.injEq, Option.some.injEq, Addr.mk.injEq, and_true, true_and] at he
    obtain ⟨rfl, rfl⟩ := he
    have hgl : g < w.heap.size := (Array.getElem?_eq_some_iff.1 hg).1
    have hheap : (sortWorldK enc k w g 0 q d' os).heap = (w.heap.modify g (onCells (putCells id 0 (flatK enc k d')))) ++ os := rfl
    have hblk : (sortWorldK enc k w g 0 q d' os).heap[g]? = some (.cells (putCells id 0 (flatK enc k d') cur) e (0, 0)) := by
      rw [hheap, Array.getElem?_append_left (by simpa using hgl), Array.getElem?_modify, if_pos rfl, hg]
      rfl
    refine ⟨⟨by rw [flat_length hk, Array.length_toList, hd], .inr ⟨g, cap, _, rfl, hb, hblk, hc, hm, by simpa [putCells] using hz, ?_⟩⟩, ⟨rfl, rfl, rfl, by rw [hheap]; simp, fun i hi hne => ?_⟩, Nat.le_add_right _ _⟩
    · rw [← flatK_flat hk]
      refine List.ext_getElem? fun t => ?_
      rw [List.getElem?_take]
      have hsz : (flatK enc k d').size = n * k := by rw [size_flatK, hd]
      have hle : n * k ≤ cap * k := Nat.mul_le_mul_right _ hc
      by_cases htn : t < n * k
      · rw [if_pos htn, Array.getElem?_toList, Array.getElem?_toList]
        have h1 : t < cur.size := by omega
        have h2 : t < (flatK enc k d').size := by omega
        rw [Array.getElem?_eq_getElem h2, Array.getElem?_eq_getElem (by simpa [putCells] using h1)]
        simp only [putCells, Array.getElem_mapIdx]
        rw [if_pos (by omega), Nat.sub_zero, getElem!_pos (flatK enc k d') t h2]
        rfl
      · rw [if_neg htn, List.getElem?_eq_none (by rw [Array.length_toList]; omega)]
    · rw [hheap, Array.getElem?_append_left (by simpa using hi), Array.getElem?_modify, if_neg (by simpa [eq_comm] using hne)]

/-- Rows of elements of one cell, in the sort's words. -/
def one1 {α : Type} (enc : α → Value) (x : α) : List Value := [enc x]
theorem flat_one {α : Type} (enc : α → Value) (xs : List α) : flat (one1 enc) xs = xs.map enc := by
  induction xs with
  | nil => rfl
  | cons x xs ih => rw [flat_cons, ih]; rfl
theorem own_holds1 {enc : α → Value} {xs : List α} (h : w.ownsRow base e 1 (.slice (some ⟨g, 0, none⟩) n cap) n (xs.map enc)) (hn : xs.length = n) : Holds enc w g 0 xs.toArray := by
  intro j hj
  have hj1 : j < xs.length := by simpa using hj
  refine ⟨?_, ?_⟩
  · rw [Nat.zero_add, h.cellAt j (by omega), List.getElem?_map, List.getElem?_eq_getElem hj1, getElem!_pos xs.toArray j hj]
    simp
  · rw [Nat.zero_add]; exact h.frozenAt j
theorem own_sorted1 {enc : α → Value} {xs : List α} (h : w.ownsRow base e 1 (.slice (some ⟨g, 0, none⟩) n cap) n (xs.map enc)) (hn : xs.length = n) {d' : Array α} (hd : d'.size = n) {q : Nat} {os : Array Obj}
    (hw : w' = sortWorld enc w g 0 q d' os) : w'.ownsRow base e 1 (.slice (some ⟨g, 0, none⟩) n cap) n (d'.toList.map enc) ∧ w.grownBy w' (some g) ∧ w.drawn ≤ w'.drawn := by
  subst hw
  obtain ⟨h1, h2⟩ := h
  rcases h2 with ⟨h2, -⟩ | ⟨g', cap', cur, he, hb, hg, hc, hm, hz, ht⟩
  · simp at h2
  · simp only [Value.slice.injEq, Option.some.injEq, Addr.mk.injEq, and_true, true_and] at he
    obtain ⟨rfl, rfl⟩ := he
    have hgl : g < w.heap.size := (Array.getElem?_eq_some_iff.1 hg).1
    have hheap : (sortWorld enc w g 0 q d' os).heap = (w.heap.modify g (onCells (putCells enc 0 d'))) ++ os := rfl
    have hblk : (sortWorld enc w g 0 q d' os).heap[g]? = some (.cells (putCells enc 0 d' cur) e (0, 0)) := by
      rw [hheap, Array.getElem?_append_left (by simpa using hgl), Array.getElem?_modify, if_pos rfl, hg]
      rfl
    refine ⟨⟨by rw [List.length_map, Array.length_toList, hd, Nat.mul_one], .inr ⟨g, cap, _, rfl, hb, hblk, hc, hm, by simpa [putCells] using hz, ?_⟩⟩, ⟨rfl, rfl, rfl, by rw [hheap]; simp, fun i hi hne => ?_⟩, Nat.le_add_right _ _⟩
    · refine List.ext_getElem? fun t => ?_
      rw [List.getElem?_take]
      by_cases htn : t < n * 1
      · rw [if_pos htn, Array.getElem?_toList, List.getElem?_map, Array.getElem?_toList]
        have h1 : t < cur.size := by omega
        have h2 : t < d'.size := by omega
        rw [Array.getElem?_eq_getElem h2, Array.getElem?_eq_getElem (by simpa [putCells] using h1)]
        simp only [putCells, Array.getElem_mapIdx]
        rw [if_pos (by omega), Nat.sub_zero, getElem!_pos d' t h2]
        rfl
      · rw [if_neg htn, List.getElem?_eq_none (by rw [List.length_map, Array.length_toList]; omega)]
    · rw [hheap, Array.getElem?_append_left (by simpa using hi), Array.getElem?_modify, if_neg (by simpa [eq_comm] using hne)]

theorem Up.grow {w w' : World} (h : Up w w') : ∃ q os', w' = Go.Sort.grow (w.drewN q) os' := by
  refine ⟨w'.drawn - w.drawn, w'.heap.extract w.heap.size w'.heap.size, ?_⟩
  have e1 : w'.heap = w.heap ++ w'.heap.extract w.heap.size w'.heap.size := by
    refine Array.ext_getElem? fun i => ?_
    by_cases hi : i < w.heap.size
    · rw [Array.getElem?_append_left hi, h.block i hi]
    · rw [Array.getElem?_append_right (by omega), Array.getElem?_extract]
      split
      · congr 1; omega
      · rw [Array.getElem?_eq_none]; omega
  have e2 : w'.drawn = w.drawn + (w'.drawn - w.drawn) := by have := h.drawn; omega
  cases w' with
  | mk heap tape drawn os output =>
    have h1 := h.os; have h2 := h.tape; have h3 := h.output
    simp only at h1 h2 h3 e1 e2
    subst h1 h2 h3
    simp only [Go.Sort.grow, World.drewN, World.mk.injEq, and_true, true_and]
    exact ⟨e1, e2⟩

theorem sortWorldK_cell {blk : Nat} {b o : Nat} {d : Array α} (hb : b < w.heap.size) (hne : b ≠ blk) (m : Nat) (os : Array Obj) : (sortWorldK enc k w blk 0 m d os).cell? ⟨b, o, none⟩ = w.cell? ⟨b, o, none⟩ := by
  refine World.cell?_of_block ?_
  show ((w.heap.modify blk (onCells (putCells id 0 (flatK enc k d)))) ++ os)[b]? = _
  rw [Array.getElem?_append_left (by simpa using hb), Array.getElem?_modify, if_neg (by simpa [eq_comm] using hne)]

theorem perm_of_permIn {d d' : Array α} (h : PermIn 0 d.size d d') : d'.toList.Perm d.toList := by
  have h3 := h.2.2
  rw [Array.extract_size, ← h.1, Array.extract_size] at h3
  exact h3
theorem pairwise_of_sortedIn {lt : α → α → Bool} {d : Array α} (h : SortedIn lt 0 d.size d) : d.toList.Pairwise (fun a b => lt b a = false) := by
  rw [List.pairwise_iff_getElem]
  intro i j hi hj hij
  have := h i j (Nat.zero_le _) hij (by simpa using hj)
  rw [getElem!_pos d i (by simpa using hi), getElem!_pos d j (by simpa using hj)] at this
  simpa using this
end

/-! An insertion sort, for what sorted lists are: the one sorted list of a permutation, where the order parts whatever two. -/
def ins {α : Type} (lt : α → α → Bool) (x : α) : List α → List α
  | [] => [x]
  | y :: ys => if lt y x then y :: ins lt x ys else x :: y :: ys
def isort {α : Type} (lt : α → α → Bool) : List α → List α
  | [] => []
  | x :: xs => ins lt x (isort lt xs)
theorem ins_perm {α : Type} (lt : α → α → Bool) (x : α) (ys : List α) : (ins lt x ys).Perm (x :: ys) := by
  induction ys with
  | nil => exact .refl _
  | cons y ys ih =>
    unfold ins
    split
    · exact (List.Perm.cons y ih).trans (.swap x y ys)
    · exact .refl _
theorem isort_perm {α : Type} (lt : α → α → Bool) (xs : List α) : (isort lt xs).Perm xs := by
  induction xs with
  | nil => exact .refl _
  | cons x xs ih => exact (ins_perm lt x _).trans (.cons x ih)
theorem ins_sorted {α : Type} {lt : α → α → Bool} (hO : SWO lt) (x : α) (ys : List α) (h : ys.Pairwise (fun a b => lt b a = false)) : (ins lt x ys).Pairwise (fun a b => lt b a = false) := by
  induction ys with
  | nil => simp [ins]
  | cons y ys ih =>
    rw [List.pairwise_cons] at h
    unfold ins
    by_cases hl : lt y x = true
    · rw [if_pos hl, List.pairwise_cons]
      refine ⟨fun z hz => ?_, ih h.2⟩
      rcases List.mem_cons.1 ((ins_perm lt x ys).mem_iff.1 hz) with rfl | hz
      · cases hq : lt z y with
        | false => rfl
        | true => have := hO.trans _ _ _ hq hl; rw [hO.irrefl] at this; cases this
      · exact h.1 z hz
    · rw [if_neg hl, List.pairwise_cons]
      refine ⟨fun z hz => ?_, List.pairwise_cons.2 h⟩
      have hl' : lt y x = false := by simpa using hl
      rcases List.mem_cons.1 hz with rfl | hz
      · exact hl'
      · exact hO.ntrans _ _ _ (h.1 z hz) hl'
theorem isort_sorted {α : Type} {lt : α → α → Bool} (hO : SWO lt) (xs : List α) : (isort lt xs).Pairwise (fun a b => lt b a = false) := by
  induction xs with
  | nil => exact .nil
  | cons x xs ih => exact ins_sorted hO x _ ih
/-- Two sorted permutations are one, where the order parts whatever two of the list's. -/
theorem sorted_unique {α : Type} {lt : α → α → Bool} {xs ys : List α} (hp : xs.Perm ys) (h1 : xs.Pairwise (fun a b => lt b a = false)) (h2 : ys.Pairwise (fun a b => lt b a = false))
    (ht : ∀ a ∈ xs, ∀ b ∈ xs, lt a b = false → lt b a = false → a = b) : xs = ys :=
  List.Perm.eq_of_pairwise (le := fun a b => lt b a = false) (fun a b ha hb h h' => ht a ha b (hp.mem_iff.2 hb) h' h) h1 h2 hp
theorem sorted_isort {α : Type} {lt : α → α → Bool} (hO : SWO lt) {xs ys : List α} (hp : ys.Perm xs) (h : ys.Pairwise (fun a b => lt b a = false))
    (ht : ∀ a ∈ xs, ∀ b ∈ xs, lt a b = false → lt b a = false → a = b) : ys = isort lt xs :=
  sorted_unique (hp.trans (isort_perm lt xs).symm) h (isort_sorted hO xs) (fun a ha b hb => ht a (hp.mem_iff.1 ha) b (hp.mem_iff.1 hb))
end Go.Proofs.Ytnjgkgbgmjoceaa
