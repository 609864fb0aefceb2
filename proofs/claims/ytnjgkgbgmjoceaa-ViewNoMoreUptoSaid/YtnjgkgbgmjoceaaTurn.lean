/-
  The turned state of ViewNoMore: its rows between two rounds.
-/
import Derived.Test.YtnjgkgbgmjoceaaAlive
import Derived.Test.YtnjgkgbgmjoceaaPureMore
set_option linter.unusedSimpArgs false
set_option linter.unusedVariables false
namespace Go.Proofs.Ytnjgkgbgmjoceaa
open Go.RowKit Go.ChangeMaps Go.Sort

/-- A whole row's load behind a guard that holds. -/
theorem wpList_load_row_g {P : Program} {ops : Array Oper} {rest : List Oper} {o : Oper} {a : Act} {w : World} {Q : Exit → Act → World → Prop} (hgd : Region.wanted o (yielded ops a.tmps) = true) (ty : TypeId) (x : Operand) (ho : o.op = .load ty x)
    (g : Nat) (hx : a.eval x = .pointer (some ⟨g, 0, none⟩)) (t : TypeId) (cs : Array Value) (fr : Nat × Nat) (d : TypeDesc) (hg : w.heap[g]? = some (.cells cs t fr))
    (hu : P.underlying ty = some d) (hd : (match d with | .struct _ | .array _ _ => true | _ => false) = true) (hi : (P.info? ty).map (·.size) = some cs.size)
    (h : wpList P ops Q rest (a.put o.dst (.agg cs)) w) : wpList P ops Q (o :: rest) a w :=
  wpList_step fun K hK => by rw [if_pos hgd]; exact wp_load_row ty x ho g hx t cs fr d hg hu hd hi (hK _ _ h)
theorem info_car : (Try.prog.info? 33).map (fun i => (i.zero, i.size, i.bytes)) = some (some (.agg #[.int .i64 0, .string { data := #[] }, .int .i64 0, .int .i64 0, .int .i64 0, .int .i64 0, .int .i64 0, .int .i64 0, .int .i64 0, .int .i64 0, .int .i64 0, .int .i64 0, .int .i64 0, .int .i64 0]), 14, 120) := by kernel_rfl
theorem info_shot : (Try.prog.info? 45).map (fun i => (i.zero, i.size, i.bytes)) = some (some (.agg #[.int .i64 0, .int .i64 0, .int .i64 0, .int .i64 0, .int .i64 0, .int .i64 0, .int .i64 0]), 7, 56) := by kernel_rfl
theorem car_len : ∀ x : Car, (Car.enc x).length = 14 := fun _ => rfl
theorem shot_len : ∀ x : Shot, (Shot.enc x).length = 7 := fun _ => rfl
/-- A row of one's own reads. -/
theorem own_reads {α : Type} {enc : α → List Value} {k : Nat} (hk : ∀ x, (enc x).length = k) {w : World} {base : Nat} {e : TypeId} {v : Value} {xs : List α} (h : w.ownsRow base e k v xs.length (flat enc xs)) :
    ∃ A c, v = .slice A xs.length c ∧ Reads w enc k A xs.length xs := by
  obtain ⟨A, c, rfl, hA⟩ := own_blk hk h
  refine ⟨A, c, rfl, rfl, fun hp => ?_⟩
  obtain ⟨g, cur, rfl, -, -, hg, hc⟩ := hA hp
  exact ⟨g, 0, rfl, hk_lt hg, fun i x j v hx hv => by rw [Nat.zero_add, hk_cell hg]; exact hc i x j v hx hv⟩
/-- The turned state's loop: W0 is the world ahead of the state. -/
structure TurnI (W0 : World) (tick next : Int) (l : List Seen) (m : Nat) (wr : World) : Prop where
  below : Below W0.heap.size W0 wr
  ex : ∃ vC vS, wr.heap[W0.heap.size]? = some (.cells #[.int .u64 tick, vC, vS, .int .i64 next] 26 (0, 0)) ∧
    wr.ownsRow W0.heap.size 33 14 vC (turnC l m).length (flat Car.enc (turnC l m)) ∧ wr.ownsRow W0.heap.size 45 7 vS (turnS l m).length (flat Shot.enc (turnS l m))
theorem turn_set {w wr w5 : World} {b i : Nat} {v : Value} {S : Nat → Prop} (hb : Below w.heap.size w wr) (kp : Kp S wr w5) (hS : ∀ k, S k → w.heap.size ≤ k) (hbl : w.heap.size ≤ b) : Below w.heap.size w (w5.setCell ⟨b, i, none⟩ v) := by
  have k1 : Kp (fun k => w.heap.size ≤ k) wr w5 := kp.mono (fun k _ h => hS k h)
  exact hb.trans ((k1.trans (Kp.setCell w5 ⟨b, i, none⟩ v hbl)).below hb.size (fun k h => h))
theorem turn_car {W0 wr w5 : World} {tick next : Int} {l : List Seen} {m : Nat} {vC vS v5 : Value} {c : Car} {ys : List Value} (hb : Below W0.heap.size W0 wr) (ht : wr.heap[W0.heap.size]? = some (.cells #[.int .u64 tick, vC, vS, .int .i64 next] 26 (0, 0)))
    (hoC : wr.ownsRow W0.heap.size 33 14 vC (turnC l m).length (flat Car.enc (turnC l m))) (hoS : wr.ownsRow W0.heap.size 45 7 vS (turnS l m).length (flat Shot.enc (turnS l m)))
    (kp : Kp (fun b => some b = vC.ownBlock) wr w5) (ho5 : w5.ownsRow W0.heap.size 33 14 v5 ((turnC l m).length + 1) (flat Car.enc (turnC l m) ++ ys)) (hx : turnC l (m + 1) = turnC l m ++ [c]) (hxS : turnS l (m + 1) = turnS l m) (hys : Car.enc c = ys) :
    TurnI W0 tick next l (m + 1) (w5.setCell ⟨W0.heap.size, 1, none⟩ v5) := by
  have ht5 := kp.at ht (own_ne_cells hoC ht (by decide))
  refine ⟨turn_set hb kp (fun k h => (hoC.lt k h.symm).1) (Nat.le_refl _), v5, vS, ?_, ?_, ?_⟩
  · exact blk_set1 ht5 1 v5
  · rw [hx, flat_snoc, List.length_append, hys]
    exact World.ownsRow.kept ho5 (World.grownBy_set w5 W0.heap.size 1 _) (.inr (fun e => own_ne_cells ho5 ht5 (by decide) e.symm))
  · rw [hxS]
    have h1 := own_kp hoS kp (own_diff hoS hoC (by decide))
    exact World.ownsRow.kept h1 (World.grownBy_set w5 W0.heap.size 1 _) (.inr (fun e => own_ne_cells h1 ht5 (by decide) e.symm))
theorem turn_shot {W0 wr w5 : World} {tick next : Int} {l : List Seen} {m : Nat} {vC vS v5 : Value} {c : Shot} {ys : List Value} (hb : Below W0.heap.size W0 wr) (ht : wr.heap[W0.heap.size]? = some (.cells #[.int .u64 tick, vC, vS, .int .i64 next] 26 (0, 0)))
    (hoC : wr.ownsRow W0.heap.size 33 14 vC (turnC l m).length (flat Car.enc (turnC l m))) (hoS : wr.ownsRow W0.heap.size 45 7 vS (turnS l m).length (flat Shot.enc (turnS l m)))
    (kp : Kp (fun b => some b = vS.ownBlock) wr w5) (ho5 : w5.ownsRow W0.heap.size 45 7 v5 ((turnS l m).length + 1) (flat Shot.enc (turnS l m) ++ ys)) (hx : turnS l (m + 1) = turnS l m ++ [c]) (hxS : turnC l (m + 1) = turnC l m) (hys : Shot.enc c = ys) :
    TurnI W0 tick next l (m + 1) (w5.setCell ⟨W0.heap.size, 2, none⟩ v5) := by
  have ht5 := kp.at ht (own_ne_cells hoS ht (by decide))
  refine ⟨turn_set hb kp (fun k h => (hoS.lt k h.symm).1) (Nat.le_refl _), vC, v5, ?_, ?_, ?_⟩
  · exact blk_set1 ht5 2 v5
  · rw [hxS]
    have h1 := own_kp hoC kp (own_diff hoC hoS (by decide))
    exact World.ownsRow.kept h1 (World.grownBy_set w5 W0.heap.size 2 _) (.inr (fun e => own_ne_cells h1 ht5 (by decide) e.symm))
  · rw [hx, flat_snoc, List.length_append, hys]
    exact World.ownsRow.kept ho5 (World.grownBy_set w5 W0.heap.size 2 _) (.inr (fun e => own_ne_cells ho5 ht5 (by decide) e.symm))
theorem turnC_mem {l : List Seen} {m : Nat} {c : Car} (h : c ∈ turnC l m) : ∃ i x, x ∈ l ∧ x.kind = 1 ∧ c = otherCar i x := by
  induction m with
  | zero => simp [turnC] at h
  | succ m ih =>
    have hc : c ∈ turnC l m ++ _ := h
    rw [List.mem_append] at hc
    rcases hc with hc | hc
    · exact ih hc
    · split at hc
      · rename_i x hx
        split at hc
        · rw [List.mem_singleton] at hc
          exact ⟨_, x, List.mem_of_getElem? hx, by assumption, hc⟩
        · simp at hc
      · simp at hc
theorem turnS_mem {l : List Seen} {m : Nat} {c : Shot} (h : c ∈ turnS l m) : ∃ i x, x ∈ l ∧ c = otherShot i x := by
  induction m with
  | zero => simp [turnS] at h
  | succ m ih =>
    have hc : c ∈ turnS l m ++ _ := h
    rw [List.mem_append] at hc
    rcases hc with hc | hc
    · exact ih hc
    · split at hc
      · rename_i x hx
        split at hc
        · simp at hc
        · rw [List.mem_singleton] at hc
          exact ⟨_, x, List.mem_of_getElem? hx, hc⟩
      · simp at hc
theorem turn_find (l : List Seen) (own : Car) (m : Nat) (h2 : ∀ s ∈ l, (s.kind = 1 ∧ s.id ≠ own.player) ∨ (s.kind = 2 ∧ s.heading = 0)) :
    (turnC l m ++ [own]).findIdx? (fun c => decide (c.player = own.player)) = some (turnC l m).length ∧ (turnC l m ++ [own])[(turnC l m).length]? = some own := by
  refine ⟨?_, by simp⟩
  rw [List.findIdx?_eq_some_iff_getElem]
  refine ⟨by simp, by simp, fun j hj => ?_⟩
  rw [List.getElem_append_left hj]
  obtain ⟨i, x, hx, hk, hc⟩ := turnC_mem (List.getElem_mem hj)
  rw [hc]
  rcases h2 x hx with h | h
  · exact fun e => h.2 (of_decide_eq_true e)
  · rw [hk] at h; simp at h
theorem turnC_ok {l : List Seen} {m : Nat} {own : Car} (h : ∀ s ∈ l, s.ok) (ho : own.ok) : ∀ c ∈ turnC l m ++ [own], c.ok := by
  intro c hc
  rw [List.mem_append, List.mem_singleton] at hc
  rcases hc with hc | rfl
  · obtain ⟨i, x, hx, hk, rfl⟩ := turnC_mem hc
    obtain ⟨h1, h2, h3, h4, h5⟩ := h x hx
    exact ⟨h2, h3, h4, h5⟩
  · exact ho
theorem turnS_ok {l : List Seen} {m : Nat} (h : ∀ s ∈ l, s.ok) : ∀ c ∈ turnS l m, c.ok := by
  intro c hc
  obtain ⟨i, x, hx, rfl⟩ := turnS_mem hc
  obtain ⟨h1, h2, h3, h4, h5⟩ := h x hx
  exact ⟨h2, h3, h4⟩
end Go.Proofs.Ytnjgkgbgmjoceaa
