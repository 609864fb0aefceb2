/-
  slices.SortFunc at what is seen and at numbers: a row of the call's own is sorted.
-/
import Derived.Test.YtnjgkgbgmjoceaaRows1
import Derived.Test.YtnjgkgbgmjoceaaCmp
import Derived.Test.YtnjgkgbgmjoceaaShelf
set_option linter.unusedSimpArgs false
set_option linter.unusedVariables false
namespace Go.Proofs.Ytnjgkgbgmjoceaa
open Go.RowKit Go.Sort

abbrev SeenOk := { s : Seen // s.ok }
theorem zero_ok : (⟨0, 0, 0, 0, 0⟩ : Seen).ok := by unfold Seen.ok I64; simp
instance : Inhabited SeenOk := ⟨⟨⟨0, 0, 0, 0, 0⟩, zero_ok⟩⟩
def SeenOk.enc (s : SeenOk) : List Value := s.1.enc
theorem seenOk_len (x : SeenOk) : x.enc.length = 5 := rfl
theorem seen_len (x : Seen) : x.enc.length = 5 := rfl
theorem seenOk_one (x : SeenOk) : ∀ v ∈ x.enc, v.oneCell' = true := by
  intro v hv
  simp [SeenOk.enc, Seen.enc] at hv
  rcases hv with rfl | rfl | rfl | rfl | rfl <;> rfl
theorem flat_ok (xs : List SeenOk) : flat SeenOk.enc xs = flat Seen.enc (xs.map (·.1)) := by
  induction xs with
  | nil => rfl
  | cons x xs ih => rw [List.map_cons, flat_cons, flat_cons, ih]; rfl

theorem isAggSeen : ∀ w, (isAgg 43).run Try.prog w = .ok true w := fun _ => by kernel_rfl
theorem sizeOfSeen : ∀ w, (Go.sizeOf 43).run Try.prog w = .ok 5 w := fun _ => by kernel_rfl

/-- slices.SortFunc at what is seen. -/
theorem sortSeen_own (cf : SeenOk → SeenOk → Int) (hO : SWO (ltOf cf)) (g : Nat) (cb : Array Value) (w : World) (v : Value) (base : Nat) (xs : List SeenOk)
    (eg : ∀ args w, (callFunc g args).run Try.prog w = .ok (.enter g args) w)
    (hcmp : ∀ blk m os (dk : Array SeenOk), v.ownBlock = some blk → ∀ x y : SeenOk, Calls Try.prog g (#[x.1.val, y.1.val] ++ cb) (sortWorldK SeenOk.enc 5 w blk 0 m dk os) fun e w' => e = .returned (.int .i64 (cf x y)) ∧ Up (sortWorldK SeenOk.enc 5 w blk 0 m dk os) w')
    (h : w.ownsRow base 43 5 v xs.length (flat Seen.enc (xs.map (·.1)))) (hsz : xs.length < 4611686018427387904)
    (ht : ∀ a ∈ xs, ∀ b ∈ xs, ltOf cf a b = false → ltOf cf b a = false → a = b) :
    Calls Try.prog 23 #[v, .func (.func g) #[] cb] w fun e w' => e = .returned (.tuple #[]) ∧
      w'.ownsRow base 43 5 v xs.length (flat Seen.enc ((isort (ltOf cf) xs).map (·.1))) ∧ w.grownBy w' v.ownBlock ∧ w.drawn ≤ w'.drawn := by
  rcases h.2 with ⟨rfl, h0⟩ | ⟨blk, cap, cur, rfl, hb, hg, hc, hm, hz, htk⟩
  · have hnone := AnyF.slices_SortFunc_none (P := Try.prog) (ρ := Try.sortSeen_ren) { Try.sortSeen with } none 0 (.func (.func g) #[] cb) w
    refine hnone.mono fun e w' ⟨he, hw⟩ => ?_
    subst hw
    have hx : xs = [] := List.eq_nil_of_length_eq_zero h0
    subst hx
    exact ⟨he, h, ⟨rfl, rfl, rfl, Nat.le_refl _, fun _ _ _ => rfl⟩, Nat.le_refl _⟩
  · by_cases h0 : xs.length = 0
    · rw [h0]
      have hnone := AnyF.slices_SortFunc_none (P := Try.prog) (ρ := Try.sortSeen_ren) { Try.sortSeen with } (some ⟨blk, 0, none⟩) cap (.func (.func g) #[] cb) w
      refine hnone.mono fun e w' ⟨he, hw⟩ => ?_
      subst hw
      have hx : xs = [] := List.eq_nil_of_length_eq_zero h0
      subst hx
      exact ⟨he, h, ⟨rfl, rfl, rfl, Nat.le_refl _, fun _ _ _ => rfl⟩, Nat.le_refl _⟩
    · have hblk : blk < w.heap.size := (Array.getElem?_eq_some_iff.1 hg).1
      have h' := h
      rw [← flat_ok] at h'
      have hlays : CmpLays Try.prog g cb SeenOk.enc 5 cf blk 0 xs.toArray.size w := fun m os dk _ x y =>
        (hcmp blk m os dk rfl x y).mono fun e w' ⟨he, hu⟩ => ⟨he, hu.grow⟩
      have hs := AnyQ.slices_SortFunc Try.sortSeen 5 isAggSeen sizeOfSeen SeenOk.enc seenOk_len seenOk_one cf hO g cb blk 0 cap xs.toArray w eg hlays (own_holdsK seenOk_len h' rfl) hblk (by simpa using hsz)
      have e1 : xs.toArray.size = xs.length := by simp
      rw [e1] at hs
      refine hs.mono fun e w' ⟨he, d', q, os, hp, hso, hw⟩ => ?_
      have hds : d'.size = xs.length := by have := hp.1; simpa using this
      obtain ⟨k1, k2, k3⟩ := own_sortedK seenOk_len h' rfl hds hw
      have hperm : d'.toList.Perm xs := by
        have hp' : PermIn 0 xs.toArray.size xs.toArray d' := by rw [e1]; exact hp
        simpa using perm_of_permIn hp'
      have hpw : d'.toList.Pairwise (fun a b => ltOf cf b a = false) := pairwise_of_sortedIn (by rw [hds]; exact hso)
      rw [sorted_isort hO hperm hpw ht, flat_ok] at k1
      exact ⟨he, k1, k2, k3⟩
def cI (x : Int) : Value := .int .i64 x
def ltI (a b : Int) : Bool := ltOf cmpI a b
theorem ltI_eq (a b : Int) : ltOf cmpI a b = decide (a < b) := by
  unfold ltOf cmpI
  by_cases h1 : a < b
  · simp [h1]
  · by_cases h2 : b < a <;> simp [h1, h2]
theorem swoI : SWO (ltOf cmpI) where
  irrefl x := by rw [ltI_eq]; simp
  trans x y z h1 h2 := by rw [ltI_eq] at *; simp at *; omega
  ntrans x y z h1 h2 := by rw [ltI_eq] at *; simp at *; omega

/-- slices.SortFunc at numbers, by cmp.Compare. -/
theorem sortInt_own (w : World) (v : Value) (base : Nat) (xs : List Int) (h : w.ownsRow base 3 1 v xs.length (xs.map cI)) (hsz : xs.length < 4611686018427387904) :
    Calls Try.prog 72 #[v, .func (.func 41) #[] #[]] w fun e w' => e = .returned (.tuple #[]) ∧
      w'.ownsRow base 3 1 v xs.length ((isort (ltOf cmpI) xs).map cI) ∧ w.grownBy w' v.ownBlock ∧ w.drawn ≤ w'.drawn := by
  rcases h.2 with ⟨rfl, h0⟩ | ⟨blk, cap, cur, rfl, hb, hg, hc, hm, hz, htk⟩
  · have hnone := AnyF.slices_SortFunc_none (P := Try.prog) (ρ := Try.sortInt_ren) { Try.sortInt with } none 0 (.func (.func 41) #[] #[]) w
    refine hnone.mono fun e w' ⟨he, hw⟩ => ?_
    subst hw
    have hx : xs = [] := List.eq_nil_of_length_eq_zero h0
    subst hx
    exact ⟨he, h, ⟨rfl, rfl, rfl, Nat.le_refl _, fun _ _ _ => rfl⟩, Nat.le_refl _⟩
  · by_cases h0 : xs.length = 0
    · rw [h0]
      have hnone := AnyF.slices_SortFunc_none (P := Try.prog) (ρ := Try.sortInt_ren) { Try.sortInt with } (some ⟨blk, 0, none⟩) cap (.func (.func 41) #[] #[]) w
      refine hnone.mono fun e w' ⟨he, hw⟩ => ?_
      subst hw
      have hx : xs = [] := List.eq_nil_of_length_eq_zero h0
      subst hx
      exact ⟨he, h, ⟨rfl, rfl, rfl, Nat.le_refl _, fun _ _ _ => rfl⟩, Nat.le_refl _⟩
    · have hblk : blk < w.heap.size := (Array.getElem?_eq_some_iff.1 hg).1
      have eg : ∀ args w, (callFunc 41 args).run Try.prog w = .ok (.enter 41 args) w := enters_of Try.func41 (by kernel_rfl) rfl
      have hlays : CmpLays1 Try.prog 41 #[] cI cmpI blk 0 xs.toArray.size w := fun m os dk _ x y =>
        (compare_any x y _).mono fun e w' ⟨he, hu⟩ => ⟨he, 0, #[], by rw [hu, Go.Sort.grow_empty]; rfl⟩
      have hs := Any.slices_SortFunc Try.sortInt cI (fun _ => rfl) cmpI swoI 41 #[] blk 0 cap xs.toArray w eg hlays (own_holds1 h rfl) hblk (by simpa using hsz)
      have e1 : xs.toArray.size = xs.length := by simp
      rw [e1] at hs
      refine hs.mono fun e w' ⟨he, d', q, os, hp, hso, hw⟩ => ?_
      have hds : d'.size = xs.length := by have := hp.1; simpa using this
      obtain ⟨k1, k2, k3⟩ := own_sorted1 h rfl hds hw
      have hperm : d'.toList.Perm xs := by
        have hp' : PermIn 0 xs.toArray.size xs.toArray d' := by rw [e1]; exact hp
        simpa using perm_of_permIn hp'
      have hpw : d'.toList.Pairwise (fun a b => ltOf cmpI b a = false) := pairwise_of_sortedIn (by rw [hds]; exact hso)
      rw [sorted_isort swoI hperm hpw (fun a _ b _ h1 h2 => by rw [ltI_eq] at h1 h2; simp at h1 h2; omega)] at k1
      exact ⟨he, k1, k2, k3⟩
end Go.Proofs.Ytnjgkgbgmjoceaa
