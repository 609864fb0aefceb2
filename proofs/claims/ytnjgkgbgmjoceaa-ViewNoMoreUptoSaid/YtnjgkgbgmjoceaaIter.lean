/-
  The grid's make; the iterator's make; the iterator's contract.
-/
import Derived.Test.YtnjgkgbgmjoceaaEnts
import Derived.RangeFuncNested
import Derived.RangeFuncBound
import Derived.RangeFuncCalls
import Derived.RangeFuncLeaves
import Derived.Shelf.Abstract
import Derived.Shelf.RegionOpen
import Derived.OwnWalkIn
import Derived.TacticsInMore
import Derived.LoopNIn
import Derived.LoopIn
set_option linter.unusedSimpArgs false
set_option linter.unusedVariables false
namespace Go.Proofs.Ytnjgkgbgmjoceaa
open Go.RowKit Go.ChangeMaps Go.Sort
attribute [local go_sem] Oper.semAt_some

set_option maxRecDepth 100000 in
set_option maxHeartbeats 1000000 in
theorem new_any (w : World) :
    Calls Try.prog 34 #[.int .i64 4194304] w fun e w' => ∃ g bp bc, e = .returned (.tuple #[.pointer (some ⟨g, 0, none⟩), .int .i64 0]) ∧ GridIs w' g bp bc w.heap.size [] [] 0 ∧ Up w w' := by
  have hmm := @run_makeMap Try.prog
  go_enter Try.func34, Try.ntmps34
  go_wp2_with fail
  go_ret2
  refine ⟨w.heap.size + 1 + 1, w.heap.size, w.heap.size + 1, rfl, ⟨?_, ?_, ?_, ?_, ?_, ?_, ?_, ?_, ?_, ?_, ?_⟩, (((Up.refl w).alloc _).alloc _).alloc _⟩
  · have := heap_alloc_new ((w.alloc (.map #[] 0)).alloc (.map #[] 0)) (.cells #[.int .i64 4194304, .map (some w.heap.size), .map (some (w.heap.size + 1))] 100)
    rw [World.size_alloc, World.size_alloc] at this
    exact this
  · exact hk_alloc (hk_alloc (heap_alloc_new w _) _) _
  · have := heap_alloc_new (w.alloc (.map #[] 0)) (.map #[] 0)
    rw [World.size_alloc] at this
    exact hk_alloc this _
  · simp [Stamped]
  · intro c v hv; simp [atE] at hv
  · intro c c' v v' _ hv; simp [atE] at hv
  · intro c _; rfl
  · omega
  · omega
  · omega
  · omega

set_option maxHeartbeats 1000000 in
theorem near_seq_any (w : World) (A : Option Addr) (n c : Nat) (ax ay r : Int) :
    Calls Try.prog 21 #[.slice A n c, .agg #[.int .i64 ax, .int .i64 ay], .int .i64 r] w fun e w' => e = .returned (.func (.func 33) #[] #[.pointer (some ⟨w.heap.size, 0, none⟩), .pointer (some ⟨w.heap.size + 1, 0, none⟩), .pointer (some ⟨w.heap.size + 1 + 1, 0, none⟩)]) ∧
      w' = ((w.alloc (.cells #[.slice A n c] 34)).alloc (.cells #[.int .i64 ax, .int .i64 ay] 31)).alloc (.cells #[.int .i64 r] 2) := by
  go_enter Try.func21, Try.ntmps21
  go_wp2_with fail
  go_ret
  exact ⟨rfl, rfl⟩

/-- What is near, as it is handed on. -/
def posOf (es : List Seen) : List (Int × Int) := es.map fun s => (s.x, s.y)
def nearS (es : List Seen) (ax ay r : Int) : List Seen := es.filter fun s => withinB s.x s.y ax ay r
theorem nearL_at (es : List Seen) (ax ay r : Int) : (nearL (posOf es) ax ay r).map (fun i => es[i.toNat]?) = (nearS es ax ay r).map some := by
  unfold nearL nearS
  rw [List.map_map]
  have key : ∀ (es : List Seen), ((List.range es.length).filter (fun j => withinB ((posOf es).getD j (0, 0)).1 ((posOf es).getD j (0, 0)).2 ax ay r)).map (fun j => es[j]?) = (es.filter fun s => withinB s.x s.y ax ay r).map some := by
    intro es
    induction es with
    | nil => rfl
    | cons s es ih =>
      rw [List.length_cons, List.range_succ_eq_map, List.filter_cons]
      have h0 : (posOf (s :: es)).getD 0 (0, 0) = (s.x, s.y) := rfl
      rw [h0, List.filter_map, List.filter_cons]
      have h1 : ((fun j => withinB ((posOf (s :: es)).getD j (0, 0)).1 ((posOf (s :: es)).getD j (0, 0)).2 ax ay r) ∘ Nat.succ) = fun j => withinB ((posOf es).getD j (0, 0)).1 ((posOf es).getD j (0, 0)).2 ax ay r := by
        funext j
        simp [posOf]
      rw [h1]
      have h2 : ((List.filter (fun j => withinB ((posOf es).getD j (0, 0)).1 ((posOf es).getD j (0, 0)).2 ax ay r) (List.range es.length)).map Nat.succ).map (fun j => (s :: es)[j]?) = (es.filter fun s => withinB s.x s.y ax ay r).map some := by
        rw [List.map_map, ← ih]
        rfl
      split <;> simp_all
  have hl : (posOf es).length = es.length := by simp [posOf]
  rw [hl]
  exact key es
/-- What the loop's body keeps. -/
def KpV (n₀ : Nat) (W W' : World) : Prop := W.heap.size ≤ W'.heap.size ∧ ∀ k cs t fr, W.heap[k]? = some (.cells cs t fr) → (t = 34 ∨ t = 3 ∨ (k < n₀ ∧ t = 43)) → W'.heap[k]? = some (.cells cs t fr)
theorem KpV.trans {n₀ : Nat} {A B C : World} (h : KpV n₀ A B) (k : KpV n₀ B C) : KpV n₀ A C := ⟨Nat.le_trans h.1 k.1, fun i cs t fr hi ht => k.2 i cs t fr (h.2 i cs t fr hi ht) ht⟩
theorem KpV.putObj {n₀ : Nat} (W : World) (l : Nat) (o o' : Obj) (h : W.heap[l]? = some o) (hc : o.isCells = false) : KpV n₀ W (W.putObj l o') :=
  ⟨(grownBy_putObj' W l o').size, fun k cs t fr hk _ => ((grownBy_putObj' W l o').block k (hk_lt hk) (fun e => by cases e; rw [hk] at h; cases h; cases hc)).trans hk⟩

/-- A row of one's own: its block, its elements. -/
theorem own_blk {α : Type} {enc : α → List Value} {k : Nat} (hk : ∀ x, (enc x).length = k) {w : World} {base : Nat} {e : TypeId} {v : Value} {xs : List α} (h : w.ownsRow base e k v xs.length (flat enc xs)) :
    ∃ A c, v = .slice A xs.length c ∧ (0 < xs.length → ∃ g cur, A = some ⟨g, 0, none⟩ ∧ v.ownBlock = some g ∧ base ≤ g ∧ w.heap[g]? = some (.cells cur e (0, 0)) ∧ ∀ i x j u, xs[i]? = some x → (enc x)[j]? = some u → cur[i * k + j]? = some u) := by
  rcases h.2 with ⟨rfl, h0⟩ | ⟨g, cap, cur, rfl, hb, hg, h1, h2, h3, h4⟩
  · exact ⟨none, 0, by rw [h0], fun hp => by omega⟩
  · refine ⟨_, cap, rfl, fun hp => ⟨g, cur, rfl, rfl, hb, hg, fun i x j u hx hu => ?_⟩⟩
    have hj : j < k := by rw [← hk x]; exact (List.getElem?_eq_some_iff.1 hu).1
    have hi : i < xs.length := (List.getElem?_eq_some_iff.1 hx).1
    have e := flat_get hk xs i j x hx hj
    rw [← h4, List.getElem?_take, if_pos, Array.getElem?_toList] at e
    · rw [e, hu]
    · have : i * k + k ≤ xs.length * k := by
        rw [← Nat.succ_mul]; exact Nat.mul_le_mul_right _ hi
      omega
theorem int_len : ∀ x : Int, ([cI x] : List Value).length = 1 := fun _ => rfl
theorem flat_int (l : List Int) : flat (fun x => [cI x]) l = l.map cI := by induction l <;> simp_all [flat]
theorem grown_of_below {W w' : World} (h : Below W.heap.size W w') : W.grownBy w' none := ⟨h.os, h.tape, h.output, h.size, fun k hk _ => h.block k hk⟩
theorem near_mem {es : List Seen} {ax ay r : Int} {k : Nat} {i : Int} (h : (nearL (posOf es) ax ay r)[k]? = some i) : ∃ (j : Nat) (x : Seen), i = (j : Int) ∧ es[j]? = some x ∧ (nearS es ax ay r)[k]? = some x := by
  have h1 := congrArg (·[k]?) (nearL_at es ax ay r)
  simp only [List.getElem?_map, h, Option.map_some] at h1
  cases hx : (nearS es ax ay r)[k]? with
  | none => rw [hx] at h1; simp at h1
  | some x =>
    rw [hx] at h1
    have h2 : es[i.toNat]? = some x := by simpa using h1
    have hm : i ∈ nearL (posOf es) ax ay r := List.mem_of_getElem? h
    simp only [nearL, List.mem_map] at hm
    obtain ⟨j, _, rfl⟩ := hm
    exact ⟨j, x, rfl, by simpa using h2, rfl⟩
theorem near_length (es : List Seen) (ax ay r : Int) : (nearL (posOf es) ax ay r).length = (nearS es ax ay r).length := by
  have := congrArg List.length (nearL_at es ax ay r)
  simpa using this

set_option maxRecDepth 100000 in
set_option maxHeartbeats 4000000 in
theorem near1_in (m l b3 b4 b5 n₀ : Nat) (es : List Seen) (v : Value) (ax ay r : Int) (J Jx : List Seen → World → Prop) (W : World) (hn0 : n₀ ≤ W.heap.size)
    (h3 : W.heap[b3]? = some (.cells #[v] 34 (0, 0))) (h4 : W.heap[b4]? = some (.cells #[.int .i64 ax, .int .i64 ay] 31 (0, 0))) (h5 : W.heap[b5]? = some (.cells #[.int .i64 r] 2 (0, 0)))
    (hown : ∃ base, W.ownsRow base 43 5 v es.length (flat Seen.enc es)) (hvb : ∀ k, v.ownBlock = some k → k < n₀)
    (hes : ∀ s ∈ es, I64 s.x ∧ I64 s.y) (hx : I64 ax) (hy : I64 ay) (hr0 : 0 ≤ r) (hr1 : r ≤ 67108864) (hl : Room es.length)
    (hJ : ∀ s W W', J s W → W.grownBy W' none → J s W')
    (hY : ∀ pre x W, J pre W → pre.length < es.length → YieldAt Fence.wide m Try.prog l #[x.val] W fun e W' =>
      (e = .returned (.bool true) ∧ J (pre ++ [x]) W' ∧ KpV n₀ W W') ∨ (e = .returned (.bool false) ∧ Jx (pre ++ [x]) W'))
    (h0 : J [] W) :
    CallsIn Fence.wide (m + 1) Try.prog 33 #[.func (.yield l) #[] #[], .pointer (some ⟨b3, 0, none⟩), .pointer (some ⟨b4, 0, none⟩), .pointer (some ⟨b5, 0, none⟩)] W fun e W' => (∃ v, e = .returned v) ∧
      ((∃ ys, ys = nearS es ax ay r ∧ J ys W') ∨ (∃ pre, True ∧ Jx pre W')) := by
  obtain ⟨base0, hown⟩ := hown
  obtain ⟨A, nc, rfl, hA⟩ := own_blk seen_len hown
  have l3 := hk_lt h3
  have l4 := hk_lt h4
  have l5 := hk_lt h5
  have hroom := hl.lt
  refine callsIn_of_wp Try.func33 rfl trivial ?_ rfl
  simp only [Try.ntmps33, List.size_toArray, List.length_cons, List.length_nil, Nat.reduceAdd, Nat.reduceSub, Array.replicate_succ, Array.replicate_zero, List.push_toArray, List.append_toArray, List.nil_append, List.cons_append]
  refine wpIn_wide.2 ?_
  go_wp2_with fail
  refine (new_any W).mono ?_
  rintro e w1 ⟨g, bp, bc, rfl, hG, hu1⟩
  have c3 := hk_cell (hk_up hu1 h3) 0
  go_wp2_with fail
  have hB1 := hu1.below
  go_loopw [17] (fun c wr => ∃ (k : Nat) (ce : List (Ent Cell)) (ck : Nat), c = .int .i64 k ∧ k ≤ es.length ∧ GridIs wr g bp bc W.heap.size ((posOf es).take k) ce ck ∧ Below W.heap.size W wr) (fun c _ => es.length - (intOf c).toNat)
  case atStart => exact ⟨0, [], 0, by simp, by omega, by simpa using hG, hB1⟩
  case round =>
    obtain ⟨k, ce, ck, rfl, hk, hG, hB⟩ := hrel
    by_cases hlt : k < es.length
    · obtain ⟨gg, cur, rfl, hob, hbb, hgg, hcur⟩ := hA (by omega)
      obtain ⟨x, hx⟩ : ∃ x, es[k]? = some x := ⟨_, List.getElem?_eq_getElem hlt⟩
      have hlg := hk_lt hgg
      have hggr := (hB.block gg hlg).trans hgg
      have hcc := fun j => hk_cell hggr (k * 5 + j)
      have hd := fun j v hv => (hcc j).trans (hcur k x j v hx hv)
      have d0 : wr.cell? ⟨gg, k * 5, none⟩ = some (.int .i64 x.kind) := hd 0 _ rfl
      have d1 : wr.cell? ⟨gg, k * 5 + 1, none⟩ = some (.int .i64 x.id) := hd 1 _ rfl
      have d2 : wr.cell? ⟨gg, k * 5 + 2, none⟩ = some (.int .i64 x.x) := hd 2 _ rfl
      have d3 : wr.cell? ⟨gg, k * 5 + 3, none⟩ = some (.int .i64 x.y) := hd 3 _ rfl
      have d4 : wr.cell? ⟨gg, k * 5 + 4, none⟩ = some (.int .i64 x.heading) := hd 4 _ rfl
      clear hcc hd
      go_wp2_with fail
      have hxm := hes x (List.mem_of_getElem? hx)
      have hpl : ((posOf es).take k).length = k := by simp [posOf]; omega
      have hpt : (posOf es).take (k + 1) = (posOf es).take k ++ [(x.x, x.y)] := by
        have hkl : k < (posOf es).length := by simp [posOf]; omega
        rw [List.take_succ_eq_append_getElem hkl]
        have : (posOf es)[k]? = some (x.x, x.y) := by simp [posOf, hx]
        rw [List.getElem?_eq_getElem hkl] at this
        rw [Option.some.inj this]
      have hu2 : Up wr (wr.alloc (.cells #[.int .i64 x.kind, .int .i64 x.id, .int .i64 x.x, .int .i64 x.y, .int .i64 x.heading] 43)) := (Up.refl wr).alloc _
      have hc := put_any _ g bp bc W.heap.size _ ce ck x.x x.y (hG.up hu2) hxm.1 hxm.2 (by unfold Room at hl ⊢; rw [hpl]; omega)
      rw [hpl] at hc
      refine hc.mono ?_
      rintro e w2 ⟨rfl, ⟨ce', ck', hG2⟩, hB2⟩
      go_wp2_with fail
      refine ⟨⟨k + 1, ce', ck', by go_num, by omega, by rw [hpt]; exact hG2, (hB.trans (hu2.below.mono hB.size)).trans hB2⟩, by simp [intOf]; omega⟩
    · have hke : k = es.length := by omega
      subst hke
      have hfull : (posOf es).take es.length = posOf es := List.take_of_length_le (by simp [posOf])
      rw [hfull] at hG
      have hJ0 : J [] wr := hJ _ _ _ h0 (grown_of_below hB)
      have r3 := (hB.block b3 l3).trans h3
      have c40 := hk_cell ((hB.block b4 l4).trans h4) 0
      have c41 := hk_cell ((hB.block b4 l4).trans h4) 1
      have c50 := hk_cell ((hB.block b5 l5).trans h5) 0
      go_wp2_with fail
      have hps : ∀ j, I64 (pAt (posOf es) j).1 ∧ I64 (pAt (posOf es) j).2 := by
        intro j
        unfold pAt posOf
        rw [List.getD_eq_getElem?_getD, List.getElem?_map]
        cases hj : es[j]? with
        | none => simp [I64]
        | some x => exact hes x (List.mem_of_getElem? hj)
      have hrl : Room (posOf es).length := by unfold Room at hl ⊢; simp [posOf]; omega
      refine (Near_any wr g bp bc W.heap.size (posOf es) ce ck ax ay r hG hps hx hy hr0 hr1 hrl).mono ?_
      rintro e w2 ⟨vL, rfl, hoL, hB2⟩
      have hJ2 : J [] w2 := hJ _ _ _ hJ0 (grown_of_below hB2)
      have hn := near_length es ax ay r
      have hnl : (nearS es ax ay r).length ≤ es.length := List.length_filter_le _ _
      have hmem := fun k i => @near_mem es ax ay r k i
      rw [← flat_int] at hoL
      obtain ⟨AL, cL, rfl, hL⟩ := own_blk int_len hoL
      generalize nearL (posOf es) ax ay r = L at *
      obtain ⟨ns, hns⟩ : ∃ ns, ns = nearS es ax ay r := ⟨_, rfl⟩
      rw [← hns] at hn hnl
      have hmem2 : ∀ (k : Nat) (i : Int), L[k]? = some i → ∃ (j : Nat) (x : Seen), i = (j : Int) ∧ es[j]? = some x ∧ ns[k]? = some x := by rw [hns]; exact hmem
      clear hmem
      have hmem := hmem2
      have HNS := Lib.hid hns
      clear hns hmem2
      have r3b : w2.heap[b3]? = some (.cells #[.slice A es.length nc] 34 (0, 0)) := (hB2.block b3 (hk_lt r3)).trans r3
      have hA2 : 0 < es.length → ∃ gg cur, A = some ⟨gg, 0, none⟩ ∧ gg < n₀ ∧ w2.heap[gg]? = some (.cells cur 43 (0, 0)) ∧ ∀ i x j u, es[i]? = some x → x.enc[j]? = some u → cur[i * 5 + j]? = some u := by
        intro hp
        obtain ⟨gg, cur, h1, h2, _, h4, h5⟩ := hA hp
        have hlt := hk_lt h4
        exact ⟨gg, cur, h1, hvb gg h2, (hB2.block gg (Nat.lt_of_lt_of_le hlt hB.size)).trans ((hB.block gg hlt).trans h4), h5⟩
      have hL2 : 0 < L.length → ∃ gL cL, AL = some ⟨gL, 0, none⟩ ∧ w2.heap[gL]? = some (.cells cL 3 (0, 0)) ∧ ∀ (i : Nat) (x : Int) (j : Nat) (u : Value), L[i]? = some x → [cI x][j]? = some u → cL[i * 1 + j]? = some u := by
        intro hp
        obtain ⟨gL, cur, h1, h2, _, h4, h5⟩ := hL hp
        exact ⟨gL, cur, h1, h4, h5⟩
      go_wp2_with fail
      clear hA hL hoL hG hps r3 c40 c41 c50 hJ0 h0 c3 hown
      refine (wpIn_wide (n := m + 1)).1 ?_
      gi_loopw [33] (fun c wr => ∃ k : Nat, c = .int .i64 k ∧ k ≤ L.length ∧ J (ns.take k) wr ∧ KpV n₀ w2 wr) (fun c _ => L.length - (intOf c).toNat)
      case atStart => exact ⟨0, by simp, by omega, hJ2, Nat.le_refl _, fun _ _ _ _ h _ => h⟩
      case round =>
        obtain ⟨k, rfl, hk, hJk, hK⟩ := hrel
        by_cases hlt : k < L.length
        · obtain ⟨j, x, hLj, hex, hnx⟩ := hmem k L[k] (List.getElem?_eq_getElem hlt)
          obtain ⟨gL, curL, rfl, hgL, hcurL⟩ := hL2 (by omega)
          have hje : j < es.length := (List.getElem?_eq_some_iff.1 hex).1
          obtain ⟨gg, cur, rfl, hggn, hgg, hcur⟩ := hA2 (by omega)
          have k3 := hk_cell (hK.2 _ _ _ _ r3b (.inl rfl)) 0
          have kL : wr.cell? ⟨gL, k, none⟩ = some (.int .i64 j) := by
            have h1 := hcurL k L[k] 0 (cI L[k]) (List.getElem?_eq_getElem hlt) rfl
            rw [hLj] at h1
            simpa using (hk_cell (hK.2 _ _ _ _ hgL (.inr (.inl rfl))) k).trans (by simpa [cI] using h1)
          have hcc := fun q => hk_cell (hK.2 _ _ _ _ hgg (.inr (.inr ⟨hggn, rfl⟩))) (j * 5 + q)
          have hd := fun q v hv => (hcc q).trans (hcur j x q v hex hv)
          have d0 : wr.cell? ⟨gg, j * 5, none⟩ = some (.int .i64 x.kind) := hd 0 _ rfl
          have d1 : wr.cell? ⟨gg, j * 5 + 1, none⟩ = some (.int .i64 x.id) := hd 1 _ rfl
          have d2 : wr.cell? ⟨gg, j * 5 + 2, none⟩ = some (.int .i64 x.x) := hd 2 _ rfl
          have d3 : wr.cell? ⟨gg, j * 5 + 3, none⟩ = some (.int .i64 x.y) := hd 3 _ rfl
          have d4 : wr.cell? ⟨gg, j * 5 + 4, none⟩ = some (.int .i64 x.heading) := hd 4 _ rfl
          clear hcc hd
          obtain ⟨fn, tmps, assign, body, hy1, hR⟩ := hY (ns.take k) x wr hJk (by rw [List.length_take]; omega)
          have hy2 : (Instr.yield l #[.agg #[.int .i64 x.kind, .int .i64 x.id, .int .i64 x.x, .int .i64 x.y, .int .i64 x.heading]]).run Try.prog wr = .ok (.round l fn tmps assign body) wr := hy1
          have hlt2 : k < ns.length := by omega
          have htk : ns.take (k + 1) = ns.take k ++ [x] := by
            rw [List.take_succ_eq_append_getElem hlt2]
            rw [List.getElem?_eq_getElem hlt2] at hnx
            rw [Option.some.inj hnx]
          gi_wp2
          refine hR.mono ?_
          rintro e W3 (⟨rfl, hJ3, hk3⟩ | ⟨rfl, hJx3⟩)
          · gi_wp2
            go_roundw
            case rel => exact ⟨k + 1, by go_num, by omega, by rw [htk]; exact hJ3, hK.trans hk3⟩
            case measure => simp [intOf]; omega
          · gi_wp2
            refine bodyPost_ret (results_none rfl _ _ _) rfl ?_
            exact ⟨⟨_, rfl⟩, .inr ⟨_, trivial, hJx3⟩⟩
        · obtain rfl : k = L.length := by omega
          have hlt2 : ¬ (L.length < ns.length) := by omega
          rw [hn, List.take_length] at hJk
          gi_wp2
          go_end0
          exact ⟨⟨_, rfl⟩, .inl ⟨_, HNS.out, hJk⟩⟩

/-- The iterator's contract. -/
theorem near1_stops (m b3 b4 b5 n₀ : Nat) (es : List Seen) (v : Value) (ax ay r : Int) (w : World) (hn0 : n₀ ≤ w.heap.size)
    (h3 : w.heap[b3]? = some (.cells #[v] 34 (0, 0))) (h4 : w.heap[b4]? = some (.cells #[.int .i64 ax, .int .i64 ay] 31 (0, 0))) (h5 : w.heap[b5]? = some (.cells #[.int .i64 r] 2 (0, 0)))
    (hown : ∃ base, w.ownsRow base 43 5 v es.length (flat Seen.enc es)) (hvb : ∀ k, v.ownBlock = some k → k < n₀)
    (hes : ∀ s ∈ es, I64 s.x ∧ I64 s.y) (hx : I64 ax) (hy : I64 ay) (hr0 : 0 ≤ r) (hr1 : r ≤ 67108864) (hl : Room es.length) :
    SeqStopsK Fence.wide (m + 1) Try.prog 33 #[.pointer (some ⟨b3, 0, none⟩), .pointer (some ⟨b4, 0, none⟩), .pointer (some ⟨b5, 0, none⟩)] (fun x : Seen => #[x.val]) (KpV n₀) (fun ys => ys = nearS es ax ay r) (fun _ => True) es.length w :=
  fun l J Jx W hW hJ _ hY h0 =>
    near1_in m l b3 b4 b5 n₀ es v ax ay r J Jx W (Nat.le_trans hn0 hW.size) ((hW.block b3 (hk_lt h3)).trans h3) ((hW.block b4 (hk_lt h4)).trans h4) ((hW.block b5 (hk_lt h5)).trans h5)
      (by
        obtain ⟨base, ho⟩ := hown
        refine ⟨base, ho.1, ?_⟩
        rcases ho.2 with hn | ⟨g, cap, cur, hv, hb, hg, rest⟩
        · exact .inl hn
        · exact .inr ⟨g, cap, cur, hv, hb, (hW.block g (hk_lt hg)).trans hg, rest⟩)
      hvb hes hx hy hr0 hr1 hl (fun s A B hs hg => hJ s A B none hs hg (fun r e => by cases e)) hY h0
end Go.Proofs.Ytnjgkgbgmjoceaa
