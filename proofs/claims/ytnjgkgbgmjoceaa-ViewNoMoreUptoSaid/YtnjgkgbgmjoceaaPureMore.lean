/-
  The plain law of ViewNoMore: a state that has but what was told, in another order, has the same view. And that of ViewNested: a greater radius or show tells no less.
-/
import Derived.Test.YtnjgkgbgmjoceaaSeenOrd
set_option linter.unusedSimpArgs false
set_option linter.unusedVariables false
namespace Go.Proofs.Ytnjgkgbgmjoceaa
open Go.RowKit Go.Sort

--BODY
/-- No two of one kind have one name: as a list. -/
def DistL (l : List Seen) : Prop := l.Pairwise (fun a b => ¬ (a.kind = b.kind ∧ a.id = b.id))
theorem entC_L (p : Int) (cars : List Car) (st : List Int × List Seen) (hp : p ∈ st.1) (h : DistL st.2 ∧ (∀ s ∈ st.2, s.kind = 1 ∧ s.id ∈ st.1 ∧ s.id ≠ p)) :
    DistL (cars.foldl stepC st).2 ∧ (∀ s ∈ (cars.foldl stepC st).2, s.kind = 1 ∧ s.id ∈ (cars.foldl stepC st).1 ∧ s.id ≠ p) := by
  induction cars generalizing st with
  | nil => exact h
  | cons c cars ih =>
    obtain ⟨h1, h2⟩ := h
    rw [List.foldl_cons]
    by_cases hc : c.player ∈ st.1
    · have e : stepC st c = st := by unfold stepC; rw [if_pos hc]
      rw [e]
      exact ih st hp ⟨h1, h2⟩
    · have e : stepC st c = (st.1 ++ [c.player], st.2 ++ (if c.wait ≤ 0 then [⟨1, c.player, c.x, c.y, c.heading⟩] else [])) := by unfold stepC; rw [if_neg hc]
      rw [e]
      have hcp : c.player ≠ p := fun e => hc (e ▸ hp)
      refine ih _ (by simp [hp]) ⟨?_, ?_⟩
      · dsimp only
        split
        · unfold DistL
          rw [List.pairwise_append]
          refine ⟨h1, by simp, fun a ha b hb => ?_⟩
          rw [List.mem_singleton] at hb
          subst hb
          intro hab
          exact hc (by have := (h2 a ha).2.1; rw [hab.2] at this; exact this)
        · simpa using h1
      · intro s hs
        dsimp only at hs
        rw [List.mem_append] at hs
        rcases hs with hs | hs
        · exact ⟨(h2 s hs).1, by simp [(h2 s hs).2.1], (h2 s hs).2.2⟩
        · split at hs
          · rw [List.mem_singleton] at hs
            subst hs
            exact ⟨rfl, by simp, hcp⟩
          · simp at hs
theorem entS_L (p : Int) (shots : List Shot) (st : List Int × List Seen) (h : DistL st.2 ∧ (∀ s ∈ st.2, (s.kind = 1 ∧ s.id ≠ p) ∨ (s.kind = 2 ∧ s.heading = 0 ∧ s.id ∈ st.1))) :
    DistL (shots.foldl stepS st).2 ∧ (∀ s ∈ (shots.foldl stepS st).2, (s.kind = 1 ∧ s.id ≠ p) ∨ (s.kind = 2 ∧ s.heading = 0 ∧ s.id ∈ (shots.foldl stepS st).1)) := by
  induction shots generalizing st with
  | nil => exact h
  | cons c shots ih =>
    obtain ⟨h1, h2⟩ := h
    rw [List.foldl_cons]
    by_cases hc : c.id ∈ st.1
    · have e : stepS st c = st := by unfold stepS; rw [if_pos hc]
      rw [e]
      exact ih st ⟨h1, h2⟩
    · have e : stepS st c = (st.1 ++ [c.id], st.2 ++ [⟨2, c.id, c.x, c.y, 0⟩]) := by unfold stepS; rw [if_neg hc]
      rw [e]
      refine ih _ ⟨?_, ?_⟩
      · dsimp only
        unfold DistL
        rw [List.pairwise_append]
        refine ⟨h1, by simp, fun a ha b hb => ?_⟩
        rw [List.mem_singleton] at hb
        subst hb
        intro hab
        rcases h2 a ha with h | h
        · rw [h.1] at hab; simp at hab
        · exact hc (by have := h.2.2; rw [hab.2] at this; exact this)
      · intro s hs
        dsimp only at hs
        rw [List.mem_append] at hs
        rcases hs with hs | hs
        · rcases h2 s hs with h | h
          · exact .inl h
          · exact .inr ⟨h.1, h.2.1, by simp [h.2.2]⟩
        · rw [List.mem_singleton] at hs
          subst hs
          exact .inr ⟨rfl, rfl, by simp⟩
theorem ents_L (cars : List Car) (shots : List Shot) (p : Int) : DistL (ents cars shots p) ∧ ∀ s ∈ ents cars shots p, (s.kind = 1 ∧ s.id ≠ p) ∨ (s.kind = 2 ∧ s.heading = 0) := by
  have h := entC_L p cars ([p], []) (by simp) ⟨.nil, by simp⟩
  have h2 := entS_L p shots ([], (entC cars p).2) ⟨h.1, fun s hs => .inl ⟨(h.2 s hs).1, (h.2 s hs).2.2⟩⟩
  refine ⟨h2.1, fun s hs => ?_⟩
  rcases h2.2 s hs with h | h
  · exact .inl h
  · exact .inr ⟨h.1, h.2.1⟩

/-- Cars, none of which lay there, each once. -/
theorem entC_fresh (cars : List Car) (st : List Int × List Seen) (hw : ∀ c ∈ cars, c.wait ≤ 0) (hn : ∀ c ∈ cars, c.player ∉ st.1) (hd : cars.Pairwise (fun a b => a.player ≠ b.player)) :
    cars.foldl stepC st = (st.1 ++ cars.map (·.player), st.2 ++ cars.map (fun c => ⟨1, c.player, c.x, c.y, c.heading⟩)) := by
  induction cars generalizing st with
  | nil => simp
  | cons c cars ih =>
    rw [List.pairwise_cons] at hd
    rw [List.foldl_cons]
    have e : stepC st c = (st.1 ++ [c.player], st.2 ++ [⟨1, c.player, c.x, c.y, c.heading⟩]) := by
      unfold stepC; rw [if_neg (hn c (by simp)), if_pos (hw c (by simp))]
    rw [e, ih _ (fun x hx => hw x (List.mem_cons_of_mem _ hx)) ?_ hd.2]
    · simp
    · intro x hx
      have h1 := hn x (List.mem_cons_of_mem _ hx)
      have h2 := hd.1 x hx
      simp only [List.mem_append, List.mem_singleton, not_or]
      exact ⟨h1, fun e => h2 e.symm⟩
theorem entS_fresh (shots : List Shot) (st : List Int × List Seen) (hn : ∀ c ∈ shots, c.id ∉ st.1) (hd : shots.Pairwise (fun a b => a.id ≠ b.id)) :
    shots.foldl stepS st = (st.1 ++ shots.map (·.id), st.2 ++ shots.map (fun c => ⟨2, c.id, c.x, c.y, 0⟩)) := by
  induction shots generalizing st with
  | nil => simp
  | cons c shots ih =>
    rw [List.pairwise_cons] at hd
    rw [List.foldl_cons]
    have e : stepS st c = (st.1 ++ [c.id], st.2 ++ [⟨2, c.id, c.x, c.y, 0⟩]) := by
      unfold stepS; rw [if_neg (hn c (by simp))]
    rw [e, ih _ ?_ hd.2]
    · simp
    · intro x hx
      have h1 := hn x (List.mem_cons_of_mem _ hx)
      have h2 := hd.1 x hx
      simp only [List.mem_append, List.mem_singleton, not_or]
      exact ⟨h1, fun e => h2 e.symm⟩

/-- What is seen, as things of a state; from the last to the first. -/
def otherName : ByteArray := ⟨#[111, 116, 104, 101, 114]⟩
def otherCar (i : Nat) (x : Seen) : Car := ⟨x.id, otherName, x.x, x.y, 9, i, x.heading, i, -i, 3, 4, 0, 5, 6⟩
def otherShot (i : Nat) (x : Seen) : Shot := ⟨x.id, i, x.x, x.y, 1, 0, -i⟩
def turnC (l : List Seen) : Nat → List Car
  | 0 => []
  | m + 1 => turnC l m ++ (match l[l.length - 1 - m]? with
    | some x => if x.kind = 1 then [otherCar (l.length - 1 - m) x] else []
    | none => [])
def turnS (l : List Seen) : Nat → List Shot
  | 0 => []
  | m + 1 => turnS l m ++ (match l[l.length - 1 - m]? with
    | some x => if x.kind = 1 then [] else [otherShot (l.length - 1 - m) x]
    | none => [])
theorem turnC_succ {l : List Seen} {m : Nat} {x : Seen} (h : l[l.length - 1 - m]? = some x) : turnC l (m + 1) = turnC l m ++ (if x.kind = 1 then [otherCar (l.length - 1 - m) x] else []) := by
  show turnC l m ++ _ = _
  rw [h]
theorem turnS_succ {l : List Seen} {m : Nat} {x : Seen} (h : l[l.length - 1 - m]? = some x) : turnS l (m + 1) = turnS l m ++ (if x.kind = 1 then [] else [otherShot (l.length - 1 - m) x]) := by
  show turnS l m ++ _ = _
  rw [h]
theorem turnC_len (l : List Seen) (m : Nat) : (turnC l m).length ≤ m := by
  induction m with
  | zero => simp [turnC]
  | succ m ih =>
    show (turnC l m ++ _).length ≤ _
    rw [List.length_append]
    split
    · split <;> simp <;> omega
    · simp; omega
theorem turnS_len (l : List Seen) (m : Nat) : (turnS l m).length ≤ m := by
  induction m with
  | zero => simp [turnS]
  | succ m ih =>
    show (turnS l m ++ _).length ≤ _
    rw [List.length_append]
    split
    · split <;> simp <;> omega
    · simp; omega
def carSeen (c : Car) : Seen := ⟨1, c.player, c.x, c.y, c.heading⟩
def shotSeen (c : Shot) : Seen := ⟨2, c.id, c.x, c.y, 0⟩
theorem drop_pred {l : List Seen} {m : Nat} {x : Seen} (hm : m < l.length) (h : l[l.length - 1 - m]? = some x) : l.drop (l.length - (m + 1)) = x :: l.drop (l.length - m) := by
  have e1 : l.length - (m + 1) = l.length - 1 - m := by omega
  have e2 : l.length - m = l.length - 1 - m + 1 := by omega
  obtain ⟨hl, hx⟩ := List.getElem?_eq_some_iff.1 h
  rw [e1, e2, List.drop_eq_getElem_cons hl, hx]
theorem turnC_seen (l : List Seen) (m : Nat) (hm : m ≤ l.length) : (turnC l m).map carSeen = ((l.drop (l.length - m)).filter (fun s => decide (s.kind = 1))).reverse := by
  induction m with
  | zero => simp [turnC]
  | succ m ih =>
    obtain ⟨x, hx⟩ : ∃ x, l[l.length - 1 - m]? = some x := ⟨_, List.getElem?_eq_getElem (by omega)⟩
    rw [turnC_succ hx, drop_pred (by omega) hx, List.map_append, ih (by omega)]
    by_cases hk : x.kind = 1
    · obtain ⟨k, i, a, b, h⟩ := x
      simp only at hk
      subst hk
      simp [carSeen, otherCar]
    · simp [hk]
theorem turnS_seen (l : List Seen) (m : Nat) (hm : m ≤ l.length) (h2 : ∀ s ∈ l, s.kind = 1 ∨ (s.kind = 2 ∧ s.heading = 0)) : (turnS l m).map shotSeen = ((l.drop (l.length - m)).filter (fun s => !decide (s.kind = 1))).reverse := by
  induction m with
  | zero => simp [turnS]
  | succ m ih =>
    obtain ⟨x, hx⟩ : ∃ x, l[l.length - 1 - m]? = some x := ⟨_, List.getElem?_eq_getElem (by omega)⟩
    rw [turnS_succ hx, drop_pred (by omega) hx, List.map_append, ih (by omega)]
    by_cases hk : x.kind = 1
    · simp [hk]
    · have := h2 x (List.mem_of_getElem? hx)
      obtain ⟨k, i, a, b, h⟩ := x
      simp only at hk this
      rcases this with h | ⟨rfl, rfl⟩
      · exact absurd h hk
      · simp [shotSeen, otherShot]
theorem turnC_wait (l : List Seen) (m : Nat) : ∀ c ∈ turnC l m, c.wait = 0 := by
  induction m with
  | zero => simp [turnC]
  | succ m ih =>
    intro c hc
    have hc : c ∈ turnC l m ++ _ := hc
    rw [List.mem_append] at hc
    rcases hc with hc | hc
    · exact ih c hc
    · split at hc
      · split at hc
        · rw [List.mem_singleton] at hc; subst hc; rfl
        · simp at hc
      · simp at hc
theorem turn_ents (l : List Seen) (own : Car) (hd : DistL l) (h2 : ∀ s ∈ l, (s.kind = 1 ∧ s.id ≠ own.player) ∨ (s.kind = 2 ∧ s.heading = 0)) :
    (ents (turnC l l.length ++ [own]) (turnS l l.length) own.player).Perm l := by
  have c1 := turnC_seen l l.length (Nat.le_refl _)
  have s1 := turnS_seen l l.length (Nat.le_refl _) (fun s hs => (h2 s hs).imp (fun h => h.1) id)
  rw [Nat.sub_self, List.drop_zero] at c1 s1
  have hw := turnC_wait l l.length
  generalize turnC l l.length = C at *
  generalize turnS l l.length = S at *
  have hn : ∀ c ∈ C, c.player ∉ ([own.player], ([] : List Seen)).1 := by
    intro c hc h
    have h1 : carSeen c ∈ (l.filter (fun s => decide (s.kind = 1))).reverse := by rw [← c1]; exact List.mem_map_of_mem hc
    rw [List.mem_reverse, List.mem_filter] at h1
    rcases h2 _ h1.1 with h3 | h3
    · exact h3.2 (by simpa [carSeen] using h)
    · have := h1.2
      simp [h3.1] at this
  have hdc : C.Pairwise (fun a b => a.player ≠ b.player) := by
    have h1 : (C.map carSeen).Pairwise (fun a b => ¬ (a.kind = b.kind ∧ a.id = b.id)) := by
      rw [c1, List.pairwise_reverse]
      exact (hd.filter _).imp (fun {a b} h e => h ⟨e.1.symm, e.2.symm⟩)
    rw [List.pairwise_map] at h1
    exact h1.imp (fun h e => h ⟨rfl, e⟩)
  have hds : S.Pairwise (fun a b => a.id ≠ b.id) := by
    have h1 : (S.map shotSeen).Pairwise (fun a b => ¬ (a.kind = b.kind ∧ a.id = b.id)) := by
      rw [s1, List.pairwise_reverse]
      exact (hd.filter _).imp (fun {a b} h e => h ⟨e.1.symm, e.2.symm⟩)
    rw [List.pairwise_map] at h1
    exact h1.imp (fun h e => h ⟨rfl, e⟩)
  have e1 : (entC (C ++ [own]) own.player).2 = C.map carSeen := by
    unfold entC
    rw [List.foldl_append, entC_fresh C _ (fun c hc => by rw [hw c hc]; exact Int.le_refl _) hn hdc]
    have : stepC ([own.player] ++ C.map (·.player), [] ++ C.map (fun c => (⟨1, c.player, c.x, c.y, c.heading⟩ : Seen))) own = ([own.player] ++ C.map (·.player), [] ++ C.map (fun c => (⟨1, c.player, c.x, c.y, c.heading⟩ : Seen))) := by
      unfold stepC; rw [if_pos (by simp)]
    simp only [List.foldl_cons, List.foldl_nil]
    rw [this, List.nil_append]
    rfl
  have e2 : ents (C ++ [own]) S own.player = C.map carSeen ++ S.map shotSeen := by
    unfold ents entS
    rw [e1, entS_fresh S _ (by simp) hds]
    rfl
  rw [e2, c1, s1]
  refine ((List.reverse_perm _).append (List.reverse_perm _)).trans ?_
  exact List.filter_append_perm _ _

theorem filter_self {α : Type} {p : α → Bool} {l : List α} (h : ∀ x ∈ l, p x = true) : l.filter p = l := List.filter_eq_self.2 h
theorem DistL.dist {l : List Seen} (h : DistL l) : Dist l := by
  intro a ha b hb h1 h2
  rcases List.mem_iff_getElem.1 ha with ⟨i, hi, rfl⟩
  rcases List.mem_iff_getElem.1 hb with ⟨j, hj, rfl⟩
  rcases Nat.lt_trichotomy i j with h3 | h3 | h3
  · exact absurd ⟨h1, h2⟩ ((List.pairwise_iff_getElem.1 h) i j hi hj h3)
  · subst h3; rfl
  · exact absurd ⟨h1.symm, h2.symm⟩ ((List.pairwise_iff_getElem.1 h) j i hj hi h3)
theorem DistL.perm {l m : List Seen} (h : DistL l) (hp : l.Perm m) : DistL m := by
  refine (hp.pairwise_iff (fun {a b} h e => h ⟨e.1.symm, e.2.symm⟩)).1 h
theorem nearest_L (cars : List Car) (shots : List Shot) (own : Car) (p radius : Int) : DistL (nearest cars shots own p radius) := by
  unfold nearest nearS
  exact DistL.perm (List.Pairwise.filter _ (ents_L cars shots p).1) (isort_perm _ _).symm
theorem seenOf_L (cars : List Car) (shots : List Shot) (own : Car) (p radius «show» : Int) : DistL (seenOf cars shots own p radius «show») := by
  unfold seenOf
  exact DistL.perm (List.Pairwise.sublist (List.take_sublist _ _) (nearest_L cars shots own p radius)) (isort_perm _ _).symm
theorem seenOf_mem {cars : List Car} {shots : List Shot} {own : Car} {p radius «show» : Int} {s : Seen} (h : s ∈ seenOf cars shots own p radius «show») :
    s ∈ ents cars shots p ∧ withinB s.x s.y own.x own.y (radOf radius * 65536) = true := by
  unfold seenOf at h
  have h1 := List.mem_of_mem_take ((isort_perm _ _).mem_iff.1 h)
  unfold nearest nearS at h1
  have h2 := (isort_perm _ _).mem_iff.1 h1
  rw [List.mem_filter] at h2
  exact h2
theorem seenOf_len (cars : List Car) (shots : List Shot) (own : Car) (p radius «show» : Int) : ((seenOf cars shots own p radius «show»).length : Int) ≤ showOf «show» := by
  unfold seenOf
  rw [(isort_perm _ _).length_eq, List.length_take]
  have : 0 ≤ showOf «show» := by unfold showOf; omega
  omega
/-- The plain law. -/
theorem noMore (cars : List Car) (shots : List Shot) (own : Car) (radius «show» : Int) (l : List Seen) (hl : l = seenOf cars shots own own.player radius «show») :
    seenOf (turnC l l.length ++ [own]) (turnS l l.length) own own.player radius «show» = l := by
  have hL := seenOf_L cars shots own own.player radius «show»
  have hM := fun s => @seenOf_mem cars shots own own.player radius «show» s
  have hN := seenOf_len cars shots own own.player radius «show»
  have hS : l.Pairwise (fun a b => ltOf toldI b a = false) := by rw [hl]; unfold seenOf; exact isort_sorted swo_told _
  rw [← hl] at hL hM hN
  clear hl
  have hp := turn_ents l own hL (fun s hs => (ents_L cars shots own.player).2 s (hM s hs).1)
  have h1 : (nearest (turnC l l.length ++ [own]) (turnS l l.length) own own.player radius).Perm l := by
    unfold nearest nearS
    refine (isort_perm _ _).trans ?_
    rw [filter_self]
    · exact hp
    · intro x hx
      exact (hM x (hp.mem_iff.1 hx)).2
  unfold seenOf
  generalize nearest (turnC l l.length ++ [own]) (turnS l l.length) own own.player radius = N at *
  have h2 : (min (showOf «show») (N.length : Int)).toNat = N.length := by rw [h1.length_eq]; omega
  rw [h2, List.take_length]
  exact sorted_unique ((isort_perm _ _).trans h1) (isort_sorted swo_told _) hS (fun a ha b hb => hL.dist.told a (((isort_perm _ _).trans h1).mem_iff.1 ha) b (((isort_perm _ _).trans h1).mem_iff.1 hb))
--END
end Go.Proofs.Ytnjgkgbgmjoceaa
