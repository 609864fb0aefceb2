/-
  What is near, in the grid: the gathering closure.
-/
import Derived.Test.YtnjgkgbgmjoceaaGrid2
set_option linter.unusedSimpArgs false
set_option linter.unusedVariables false
namespace Go.Proofs.Ytnjgkgbgmjoceaa
open Go.RowKit Go.ChangeMaps Go.Sort

def pAt (ps : List (Int × Int)) (j : Nat) : Int × Int := ps.getD j (0, 0)
def wIn (ps : List (Int × Int)) (ax ay r : Int) (j : Nat) : Bool := withinB (pAt ps j).1 (pAt ps j).2 ax ay r
theorem atE_places (ps : List (Int × Int)) (n : Nat) (h : n < ps.length) : atE (n : Int) (placesE ps) = some (.agg #[.int .i64 (pAt ps n).1, .int .i64 (pAt ps n).2]) := by
  have key : ∀ (ps : List (Int × Int)) (s m : Nat), n = s + m → m < ps.length → atE (n : Int) (ps.mapIdx fun i p => (⟨((i + s : Nat) : Int), .agg #[.int .i64 p.1, .int .i64 p.2], i + s⟩ : Ent Int)) = some (.agg #[.int .i64 (pAt ps m).1, .int .i64 (pAt ps m).2]) := by
    intro ps
    induction ps with
    | nil => intro s m _ hm; simp at hm
    | cons p r ih =>
      intro s m hs hm
      rw [List.mapIdx_cons]
      unfold atE
      cases m with
      | zero => rw [if_pos (by simp; omega)]; rfl
      | succ m =>
        rw [if_neg (by simp; omega)]
        have := ih (s + 1) m (by omega) (by simpa using hm)
        simpa [pAt, Nat.add_assoc, Nat.add_comm 1 s] using this
  have := key ps 0 n (by omega) h
  simpa [placesE] using this

/-- What the gathering leaves. -/
def Gathered (b7 base0 : Nat) (v0 : Value) (l : List Int) (w w' : World) : Prop :=
  ∃ v1, w'.heap[b7]? = some (.cells #[v1] 78 (0, 0)) ∧ w'.ownsRow base0 3 1 v1 l.length (l.map cI) ∧ Kp (fun k => k = b7 ∨ some k = v0.ownBlock) w w' ∧ (v1.ownBlock = v0.ownBlock ∨ ∃ b, v1.ownBlock = some b ∧ w.heap.size ≤ b)

set_option maxRecDepth 100000 in
set_option maxHeartbeats 1000000 in
theorem gather_any (w : World) (g bp b3 b4 b5 b7 base0 : Nat) (ps : List (Int × Int)) (ax ay r : Int) (j : Nat) (v0 : Value) (l : List Int)
    (h3 : w.cell? ⟨b3, 0, none⟩ = some (.pointer (some ⟨g, 0, none⟩))) (hg : w.cell? ⟨g, 1, none⟩ = some (.map (some bp))) (hp : w.heap[bp]? = some (mapObj intV (placesE ps) ps.length))
    (h40 : w.cell? ⟨b4, 0, none⟩ = some (.int .i64 ax)) (h41 : w.cell? ⟨b4, 1, none⟩ = some (.int .i64 ay)) (h5 : w.cell? ⟨b5, 0, none⟩ = some (.int .i64 r))
    (h7 : w.heap[b7]? = some (.cells #[v0] 78 (0, 0))) (ho : w.ownsRow base0 3 1 v0 l.length (l.map cI)) (hb0 : base0 ≤ w.heap.size)
    (hj : j < ps.length) (hps : ∀ j, I64 (pAt ps j).1 ∧ I64 (pAt ps j).2) (hx : I64 ax) (hy : I64 ay) (hr : I64 r) (hl : Room l.length) :
    Calls Try.prog 73 #[.int .i64 j, .pointer (some ⟨b3, 0, none⟩), .pointer (some ⟨b4, 0, none⟩), .pointer (some ⟨b5, 0, none⟩), .pointer (some ⟨b7, 0, none⟩)] w fun e w' => e = .returned (.tuple #[]) ∧
      Gathered b7 base0 v0 (l ++ (if wIn ps ax ay r j then [(j : Int)] else [])) w w' := by
  have hlook : ∀ W : World, W.heap[bp]? = some (mapObj intV (placesE ps) ps.length) → (Instr.lookup 97 (.map (some bp)) (.int .i64 j) false).run Try.prog W = .ok (.agg #[.int .i64 (pAt ps j).1, .int .i64 (pAt ps j).2]) W := by
    intro W hW
    have h := run_lookup_E intVKeys Try.underlying97 (zeroVec W) hW (j : Int) false
    rw [atE_places ps j hj] at h
    exact h
  obtain ⟨hpx, hpy⟩ := hps j
  have hwi : ∀ W, _ := fun W => Within_any (pAt ps j).1 (pAt ps j).2 ax ay r W hpx hpy hx hy hr
  have l3 := World.block_lt_of_cell? w _ h3
  have lg := World.block_lt_of_cell? w _ hg
  have l4 := World.block_lt_of_cell? w _ h40
  have l5 := World.block_lt_of_cell? w _ h5
  have l7 := hk_lt h7
  have c7 : w.cell? ⟨b7, 0, none⟩ = some v0 := hk_cell h7 0
  unfold wIn
  generalize withinB (pAt ps j).1 (pAt ps j).2 ax ay r = tb at *
  generalize (pAt ps j).1 = px at *
  generalize (pAt ps j).2 = py at *
  go_enter Try.func73, Try.ntmps73
  go_wp2_with fail
  go_region_held3 (fun w' => w.heap.size ≤ w'.heap.size ∧ w'.cell? ⟨b3, 0, none⟩ = some (.pointer (some ⟨g, 0, none⟩)) ∧ w'.cell? ⟨g, 1, none⟩ = some (.map (some bp)) ∧ w'.heap[bp]? = some (mapObj intV (placesE ps) ps.length) ∧ w'.cell? ⟨b4, 0, none⟩ = some (.int .i64 ax) ∧ w'.cell? ⟨b4, 1, none⟩ = some (.int .i64 ay) ∧ w'.cell? ⟨b5, 0, none⟩ = some (.int .i64 r)) (first | (((try dsimp only); (repeat' apply And.intro) <;> (first | assumption | omega | ((try simp only [World.size_alloc, World.size_drew]); omega) | ((try simp only [World.size_alloc, World.size_drew] at hz ⊢); omega) | ((simp only [World.size_alloc, World.size_drew] at *); omega) | (rw [hc _ _ (by (try simp only [World.size_alloc, World.size_drew]); omega)]; go_simp) | ((repeat (first | assumption | (refine hk_alloc ?_ _) | (refine hk_set ?_ (by first | assumption | omega) _) | (refine hk_up (by assumption) ?_))); done) | go_keep))))
    (first | (go_at_call 74; refine (hwi _).mono ?_; rintro e w' ⟨rfl, hu1⟩; obtain ⟨hc, hf⟩ := ucell hu1; have hz := hu1.size))
  have hu : Up w w' := (Up.refl w).drew.trans hu1
  have h7' := hk_up hu h7
  have c7' : w'.cell? ⟨b7, 0, none⟩ = some v0 := hk_cell h7' 0
  have f7' : w'.frozen? ⟨b7, 0, none⟩ = false := hk_free h7' 0
  have ho' := own_up ho hu
  have hb0' : base0 ≤ w'.heap.size := Nat.le_trans hb0 hu.size
  have l7' := hk_lt h7'
  have n7' : b7 ≠ w'.heap.size := by omega
  have hroom := hl.lt
  have hlen1 : l.length + 1 ≤ 9223372036854775807 := by omega
  have hlen2 : (l.length + 1) * 8 ≤ 140737488355328 := by omega
  clear hroom hc hz hf hwi hlook
  cases tb with
  | false =>
    go_wp2
    go_end0
    refine ⟨rfl, v0, h7', ?_, .up hu, .inl rfl⟩
    simpa using ho'
  | true =>
    have n70 : some b7 ≠ v0.ownBlock := own_ne_cells ho' h7' (by decide)
    have N70 := Lib.hid n70
    clear n70
    go_wp2_with (at_builtin; go_loud (refine wpList_append rfl base0 (.tmp 15) (.tmp 17) 3 (.int .i64 0) 1 8 rfl Try.underlying78 info_int rfl (by omega) v0 l.length (l.map cI) [.int .i64 j] rfl w'.heap.size rfl (heap_alloc_new _ _) rfl (by simp [Value.oneCell']) (ho'.alloc _) (Nat.le_trans hb0' (by simp)) hlen1 hlen2 ?_; intro gg cap w1 ho1 hg1 hat1; have h71 := hg1.block b7 (Nat.lt_of_lt_of_le l7' (by simp)) N70.out; have H71 := h71.trans (hk_alloc h7' _); have c71 := hk_cell H71 0; have f71 := hk_free H71 0))
    go_end0
    refine ⟨rfl, .slice (some ⟨gg, 0, none⟩) (l.length + 1) cap, blk_set1 H71 0 _, ?_, ?_, ?_⟩
    · rw [List.length_append, List.map_append]
      refine World.ownsRow.kept ho1 (World.grownBy_set _ b7 0 _) (.inr ?_)
      rcases hat1 with h | h
      · rw [h] at N70; exact fun e => N70.out (by rw [← e]; rfl)
      · subst h; simp [Value.ownBlock]; omega
    · refine ((Kp.up hu).trans ((Kp.alloc _ _).trans ((Kp.grown hg1 (fun k hk => .inr hk.symm)).trans (Kp.setCell _ _ _ (.inl rfl)))))
    · rcases hat1 with h | h
      · exact .inl (by rw [h]; rfl)
      · exact .inr ⟨gg, rfl, by subst h; simp; exact Nat.le_succ_of_le hu.size⟩
end Go.Proofs.Ytnjgkgbgmjoceaa
