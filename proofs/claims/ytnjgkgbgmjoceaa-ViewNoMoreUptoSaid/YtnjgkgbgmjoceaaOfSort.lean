/-
  The two sorts of view.Of.
-/
import Derived.Test.YtnjgkgbgmjoceaaSeenOrd
set_option linter.unusedSimpArgs false
set_option linter.unusedVariables false
namespace Go.Proofs.Ytnjgkgbgmjoceaa
open Go.RowKit Go.ChangeMaps Go.Sort

theorem sort_near (w : World) (v : Value) (base b : Nat) (l : List Seen) (ox oy : Int) (cs : Array Value) (hl : ∀ s ∈ l, s.ok) (hd : Dist l) (h : w.ownsRow base 43 5 v l.length (flat Seen.enc l)) (h1 : I64 ox) (h2 : I64 oy)
    (hb : w.heap[b]? = some (.cells cs 36 (0, 0))) (c3 : cs[3]? = some (.int .i64 ox)) (c4 : cs[4]? = some (.int .i64 oy)) (hr : l.length < 4611686018427387904) :
    Calls Try.prog 23 #[v, .func (.func 24) #[] #[.pointer (some ⟨b, 0, none⟩)]] w fun e w' => e = .returned (.tuple #[]) ∧
      w'.ownsRow base 43 5 v l.length (flat Seen.enc (isort (ltOf (nearI ox oy)) l)) ∧ w.grownBy w' v.ownBlock := by
  obtain ⟨xs, rfl⟩ := lift_ok hl
  have hn : some b ≠ v.ownBlock := own_ne_cells h hb (by decide)
  have hlb := hk_lt hb
  rw [List.length_map] at h hr ⊢
  refine (sortSeen_own (fun a b => nearI ox oy a.1 b.1) (swo_pull _ (swo_near ox oy)) 24 #[.pointer (some ⟨b, 0, none⟩)] w v base xs (enters_of Try.func24 (by kernel_rfl) rfl) ?_ h hr ?_).mono ?_
  · intro blk m os dk hblk x y
    have hne : b ≠ blk := fun e => hn (by rw [hblk, e])
    exact near_cmp_any x.1 y.1 b ox oy _ x.2 y.2 h1 h2 ((sortWorldK_cell hlb hne _ _).trans ((hk_cell hb 3).trans c3)) ((sortWorldK_cell hlb hne _ _).trans ((hk_cell hb 4).trans c4))
  · intro a ha c hc e1 e2
    exact Subtype.ext (hd.near ox oy a.1 (List.mem_map_of_mem ha) c.1 (List.mem_map_of_mem hc) e1 e2)
  · rintro e w' ⟨he, ho, hg, _⟩
    rw [isort_map (fun x : SeenOk => x.1) (nearI ox oy)] at ho
    exact ⟨he, ho, hg⟩

theorem sort_told (w : World) (v : Value) (base : Nat) (l : List Seen) (hl : ∀ s ∈ l, s.ok) (hd : Dist l) (h : w.ownsRow base 43 5 v l.length (flat Seen.enc l)) (hr : l.length < 4611686018427387904) :
    Calls Try.prog 23 #[v, .func (.func 28) #[] #[]] w fun e w' => e = .returned (.tuple #[]) ∧
      w'.ownsRow base 43 5 v l.length (flat Seen.enc (isort (ltOf toldI) l)) ∧ w.grownBy w' v.ownBlock := by
  obtain ⟨xs, rfl⟩ := lift_ok hl
  rw [List.length_map] at h hr ⊢
  refine (sortSeen_own (fun a b => toldI a.1 b.1) (swo_pull _ swo_told) 28 #[] w v base xs (enters_of Try.func28 (by kernel_rfl) rfl) ?_ h hr ?_).mono ?_
  · intro blk m os dk hblk x y
    exact told_any x.1 y.1 _
  · intro a ha c hc e1 e2
    exact Subtype.ext (hd.told a.1 (List.mem_map_of_mem ha) c.1 (List.mem_map_of_mem hc) e1 e2)
  · rintro e w' ⟨he, ho, hg, _⟩
    rw [isort_map (fun x : SeenOk => x.1) toldI] at ho
    exact ⟨he, ho, hg⟩
end Go.Proofs.Ytnjgkgbgmjoceaa
