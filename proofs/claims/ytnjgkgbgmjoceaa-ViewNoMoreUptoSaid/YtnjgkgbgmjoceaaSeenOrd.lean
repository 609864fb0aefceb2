/-
  The orders of what is seen, and that no two of the entities are alike. No program in sight.
-/
import Derived.Test.YtnjgkgbgmjoceaaOfParts
set_option linter.unusedSimpArgs false
set_option linter.unusedVariables false
namespace Go.Proofs.Ytnjgkgbgmjoceaa
open Go.RowKit Go.Sort

theorem cmpI_lt (a b : Int) : cmpI a b < 0 ↔ a < b := by unfold cmpI; split <;> try split
                                                         all_goals omega
theorem cmpI_eq (a b : Int) : cmpI a b = 0 ↔ a = b := by unfold cmpI; split <;> try split
                                                         all_goals omega
theorem orI_lt (a b : Int) : orI a b < 0 ↔ a < 0 ∨ (a = 0 ∧ b < 0) := by unfold orI; split <;> omega
theorem orI_eq (a b : Int) : orI a b = 0 ↔ a = 0 ∧ b = 0 := by unfold orI; split <;> omega
theorem toldI_lt (a b : Seen) : toldI a b < 0 ↔ a.kind < b.kind ∨ (a.kind = b.kind ∧ a.id < b.id) := by
  unfold toldI; rw [orI_lt, cmpI_lt, cmpI_eq, cmpI_lt]
theorem nearI_lt (ox oy : Int) (a b : Seen) : nearI ox oy a b < 0 ↔ dist2 a.x a.y ox oy < dist2 b.x b.y ox oy ∨ (dist2 a.x a.y ox oy = dist2 b.x b.y ox oy ∧ (a.kind < b.kind ∨ (a.kind = b.kind ∧ a.id < b.id))) := by
  unfold nearI; rw [orI_lt, cmpI_lt, cmpI_eq, toldI_lt]
theorem swo_told : SWO (ltOf toldI) where
  irrefl x := by simp only [ltOf, toldI_lt, decide_eq_false_iff_not]; omega
  trans x y z h1 h2 := by simp only [ltOf, toldI_lt, decide_eq_true_eq] at *; omega
  ntrans x y z h1 h2 := by simp only [ltOf, toldI_lt, decide_eq_false_iff_not] at *; omega
theorem swo_near (ox oy : Int) : SWO (ltOf (nearI ox oy)) where
  irrefl x := by simp only [ltOf, nearI_lt, decide_eq_false_iff_not]; omega
  trans x y z h1 h2 := by simp only [ltOf, nearI_lt, decide_eq_true_eq] at *; omega
  ntrans x y z h1 h2 := by simp only [ltOf, nearI_lt, decide_eq_false_iff_not] at *; omega
theorem swo_pull {α β : Type} (f : β → α) {cf : α → α → Int} (h : SWO (ltOf cf)) : SWO (ltOf fun a b => cf (f a) (f b)) :=
  ⟨fun x => h.irrefl (f x), fun x y z => h.trans (f x) (f y) (f z), fun x y z => h.ntrans (f x) (f y) (f z)⟩
theorem ins_map {α β : Type} (f : β → α) (cf : α → α → Int) (x : β) (xs : List β) : (ins (ltOf fun a b => cf (f a) (f b)) x xs).map f = ins (ltOf cf) (f x) (xs.map f) := by
  induction xs with
  | nil => rfl
  | cons y ys ih =>
    simp only [ins, List.map_cons]
    have : ltOf (fun a b => cf (f a) (f b)) = fun a b => ltOf cf (f a) (f b) := rfl
    simp only [this] at *
    split <;> simp_all
theorem isort_map {α β : Type} (f : β → α) (cf : α → α → Int) (xs : List β) : (isort (ltOf fun a b => cf (f a) (f b)) xs).map f = isort (ltOf cf) (xs.map f) := by
  induction xs with
  | nil => rfl
  | cons x xs ih => simp only [isort, List.map_cons, ins_map, ih]

/-- No two have one name. -/
def Dist (l : List Seen) : Prop := ∀ a ∈ l, ∀ b ∈ l, a.kind = b.kind → a.id = b.id → a = b
theorem Dist.sub {l m : List Seen} (h : Dist l) (hm : ∀ x ∈ m, x ∈ l) : Dist m := fun a ha b hb => h a (hm a ha) b (hm b hb)
theorem Dist.told {l : List Seen} (h : Dist l) : ∀ a ∈ l, ∀ b ∈ l, ltOf toldI a b = false → ltOf toldI b a = false → a = b := by
  intro a ha b hb h1 h2
  simp only [ltOf, toldI_lt, decide_eq_false_iff_not] at h1 h2
  exact h a ha b hb (by omega) (by omega)
theorem Dist.near {l : List Seen} (h : Dist l) (ox oy : Int) : ∀ a ∈ l, ∀ b ∈ l, ltOf (nearI ox oy) a b = false → ltOf (nearI ox oy) b a = false → a = b := by
  intro a ha b hb h1 h2
  simp only [ltOf, nearI_lt, decide_eq_false_iff_not] at h1 h2
  exact h a ha b hb (by omega) (by omega)
def Car.ok (c : Car) : Prop := I64 c.player ∧ I64 c.x ∧ I64 c.y ∧ I64 c.heading
def Shot.ok (c : Shot) : Prop := I64 c.id ∧ I64 c.x ∧ I64 c.y
theorem entC_inv (cars : List Car) (st : List Int × List Seen) (h : Dist st.2 ∧ (∀ s ∈ st.2, s.kind = 1 ∧ s.id ∈ st.1) ∧ (∀ s ∈ st.2, s.ok)) (hc : ∀ c ∈ cars, c.ok) :
    Dist (cars.foldl stepC st).2 ∧ (∀ s ∈ (cars.foldl stepC st).2, s.kind = 1 ∧ s.id ∈ (cars.foldl stepC st).1) ∧ (∀ s ∈ (cars.foldl stepC st).2, s.ok) := by
  induction cars generalizing st with
  | nil => exact h
  | cons c cars ih =>
    refine ih _ ?_ (fun x hx => hc x (List.mem_cons_of_mem _ hx))
    obtain ⟨h1, h2, h3⟩ := h
    obtain ⟨k1, k2, k3, k4⟩ := hc c (List.mem_cons_self)
    unfold stepC
    split
    · exact ⟨h1, h2, h3⟩
    · rename_i hn
      split
      · refine ⟨?_, ?_, ?_⟩
        · intro a ha b hb e1 e2
          simp only [List.mem_append, List.mem_singleton] at ha hb
          rcases ha with ha | rfl <;> rcases hb with hb | rfl
          · exact h1 a ha b hb e1 e2
          · exact absurd (h2 a ha).2 (by rw [e2]; exact hn)
          · exact absurd (h2 b hb).2 (by rw [← e2]; exact hn)
          · rfl
        · intro s hs
          simp only [List.mem_append, List.mem_singleton] at hs ⊢
          rcases hs with hs | rfl
          · exact ⟨(h2 s hs).1, .inl (h2 s hs).2⟩
          · exact ⟨rfl, .inr rfl⟩
        · intro s hs
          simp only [List.mem_append, List.mem_singleton] at hs
          rcases hs with hs | rfl
          · exact h3 s hs
          · exact ⟨by unfold I64; simp, k1, k2, k3, k4⟩
      · refine ⟨by simpa using h1, ?_, by simpa using h3⟩
        intro s hs
        have := h2 s (by simpa using hs)
        exact ⟨this.1, by simp [this.2]⟩
theorem entS_inv (shots : List Shot) (st : List Int × List Seen) (h : Dist st.2 ∧ (∀ s ∈ st.2, s.kind = 1 ∨ (s.kind = 2 ∧ s.id ∈ st.1)) ∧ (∀ s ∈ st.2, s.ok)) (hc : ∀ c ∈ shots, c.ok) :
    Dist (shots.foldl stepS st).2 ∧ (∀ s ∈ (shots.foldl stepS st).2, s.kind = 1 ∨ (s.kind = 2 ∧ s.id ∈ (shots.foldl stepS st).1)) ∧ (∀ s ∈ (shots.foldl stepS st).2, s.ok) := by
  induction shots generalizing st with
  | nil => exact h
  | cons c cars ih =>
    refine ih _ ?_ (fun x hx => hc x (List.mem_cons_of_mem _ hx))
    obtain ⟨h1, h2, h3⟩ := h
    obtain ⟨k1, k2, k3⟩ := hc c (List.mem_cons_self)
    unfold stepS
    split
    · exact ⟨h1, h2, h3⟩
    · rename_i hn
      refine ⟨?_, ?_, ?_⟩
      · intro a ha b hb e1 e2
        simp only [List.mem_append, List.mem_singleton] at ha hb
        rcases ha with ha | rfl <;> rcases hb with hb | rfl
        · exact h1 a ha b hb e1 e2
        · rcases h2 a ha with h | h
          · rw [h] at e1; simp at e1
          · exact absurd h.2 (by rw [e2]; exact hn)
        · rcases h2 b hb with h | h
          · rw [h] at e1; simp at e1
          · exact absurd h.2 (by rw [← e2]; exact hn)
        · rfl
      · intro s hs
        simp only [List.mem_append, List.mem_singleton] at hs ⊢
        rcases hs with hs | rfl
        · rcases h2 s hs with h | h
          · exact .inl h
          · exact .inr ⟨h.1, .inl h.2⟩
        · exact .inr ⟨rfl, .inr rfl⟩
      · intro s hs
        simp only [List.mem_append, List.mem_singleton] at hs
        rcases hs with hs | rfl
        · exact h3 s hs
        · exact ⟨by unfold I64; simp, k1, k2, k3, by unfold I64; simp⟩
theorem ents_inv (cars : List Car) (shots : List Shot) (player : Int) (hc : ∀ c ∈ cars, c.ok) (hs : ∀ c ∈ shots, c.ok) : Dist (ents cars shots player) ∧ ∀ s ∈ ents cars shots player, s.ok := by
  have h := entC_inv cars ([player], []) ⟨by intro a ha; simp at ha, by simp, by simp⟩ hc
  have h2 := entS_inv shots ([], (entC cars player).2) ⟨h.1, fun s hs => .inl (h.2.1 s hs).1, h.2.2⟩ hs
  exact ⟨h2.1, h2.2.2⟩
theorem ents_length (cars : List Car) (shots : List Shot) (player : Int) : (ents cars shots player).length ≤ cars.length + shots.length := by
  have h1 := (entC_len cars ([player], [])).2
  have h2 := (entS_len shots ([], (entC cars player).2)).2
  unfold ents entS
  unfold entC at *
  simp only [List.length_nil] at h1 h2
  omega

/-- What a player sees. -/
def radOf (r : Int) : Int := min (max r 0) 1024
def showOf (s : Int) : Int := min (max s 0) 32
def nearest (cars : List Car) (shots : List Shot) (own : Car) (player radius : Int) : List Seen := isort (ltOf (nearI own.x own.y)) (nearS (ents cars shots player) own.x own.y (radOf radius * 65536))
def seenOf (cars : List Car) (shots : List Shot) (own : Car) (player radius «show» : Int) : List Seen :=
  isort (ltOf toldI) ((nearest cars shots own player radius).take (min (showOf «show») (nearest cars shots own player radius).length).toNat)
theorem radOf_range (r : Int) : 0 ≤ radOf r * 65536 ∧ radOf r * 65536 ≤ 67108864 := by unfold radOf; omega
theorem nearest_mem {cars : List Car} {shots : List Shot} {own : Car} {player radius : Int} {s : Seen} (h : s ∈ nearest cars shots own player radius) : s ∈ ents cars shots player := by
  have := (isort_perm _ _).mem_iff.1 h
  exact (List.mem_filter.1 this).1
theorem nearest_len (cars : List Car) (shots : List Shot) (own : Car) (player radius : Int) : (nearest cars shots own player radius).length ≤ cars.length + shots.length := by
  have h1 := (isort_perm (ltOf (nearI own.x own.y)) (nearS (ents cars shots player) own.x own.y (radOf radius * 65536))).length_eq
  have h2 : (nearS (ents cars shots player) own.x own.y (radOf radius * 65536)).length ≤ (ents cars shots player).length := List.length_filter_le _ _
  have h3 := ents_length cars shots player
  unfold nearest
  omega
/-- A list all of whose members are right, as one of the subtype. -/
theorem lift_ok {l : List Seen} (h : ∀ s ∈ l, s.ok) : ∃ xs : List SeenOk, xs.map (·.1) = l := by
  refine ⟨l.attach.map fun s => ⟨s.1, h s.1 s.2⟩, ?_⟩
  simp
end Go.Proofs.Ytnjgkgbgmjoceaa
