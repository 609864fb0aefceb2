/-
  What a player might see of a state: the first cars of the others that are no wrecks, the first shots.
-/
import Derived.Test.YtnjgkgbgmjoceaaNear3
set_option linter.unusedSimpArgs false
set_option linter.unusedVariables false
namespace Go.Proofs.Ytnjgkgbgmjoceaa
open Go.RowKit Go.ChangeMaps Go.Sort

structure Car where
  player : Int
  name : ByteArray
  x : Int
  y : Int
  sx : Int
  sy : Int
  heading : Int
  health : Int
  energy : Int
  ammo : Int
  cool : Int
  wait : Int
  spawns : Int
  score : Int
deriving DecidableEq
def Car.enc (c : Car) : List Value := [.int .i64 c.player, .string c.name, .int .i64 c.x, .int .i64 c.y, .int .i64 c.sx, .int .i64 c.sy, .int .i64 c.heading, .int .i64 c.health, .int .i64 c.energy, .int .i64 c.ammo, .int .i64 c.cool, .int .i64 c.wait, .int .i64 c.spawns, .int .i64 c.score]
structure Shot where
  id : Int
  player : Int
  x : Int
  y : Int
  sx : Int
  sy : Int
  left : Int
deriving DecidableEq
def Shot.enc (c : Shot) : List Value := [.int .i64 c.id, .int .i64 c.player, .int .i64 c.x, .int .i64 c.y, .int .i64 c.sx, .int .i64 c.sy, .int .i64 c.left]

/-- A slice's elements, each of k cells, as they read in a world. -/
def Reads {α : Type} (w : World) (enc : α → List Value) (k : Nat) (A : Option Addr) (n : Nat) (xs : List α) : Prop :=
  xs.length = n ∧ (0 < n → ∃ b off, A = some ⟨b, off, none⟩ ∧ b < w.heap.size ∧ ∀ i x j v, xs[i]? = some x → (enc x)[j]? = some v → w.cell? ⟨b, off + i * k + j, none⟩ = some v)
theorem Reads.below {α : Type} {w w' : World} {enc : α → List Value} {k : Nat} {A : Option Addr} {n : Nat} {xs : List α} (h : Reads w enc k A n xs) (hb : Below w.heap.size w w') : Reads w' enc k A n xs :=
  ⟨h.1, fun hn => let ⟨b, off, h1, h2, h3⟩ := h.2 hn; ⟨b, off, h1, Nat.lt_of_lt_of_le h2 hb.size, fun i x j v hx hv => (hb.cell (p := ⟨b, off + i * k + j, none⟩) h2).trans (h3 i x j v hx hv)⟩⟩

/-- The entities' fold: the players met, the list. -/
def stepC (st : List Int × List Seen) (c : Car) : List Int × List Seen :=
  if c.player ∈ st.1 then st else (st.1 ++ [c.player], st.2 ++ (if c.wait ≤ 0 then [⟨1, c.player, c.x, c.y, c.heading⟩] else []))
def stepS (st : List Int × List Seen) (s : Shot) : List Int × List Seen :=
  if s.id ∈ st.1 then st else (st.1 ++ [s.id], st.2 ++ [⟨2, s.id, s.x, s.y, 0⟩])
def entC (cars : List Car) (player : Int) : List Int × List Seen := cars.foldl stepC ([player], [])
def entS (shots : List Shot) (l : List Seen) : List Int × List Seen := shots.foldl stepS ([], l)
def ents (cars : List Car) (shots : List Shot) (player : Int) : List Seen := (entS shots (entC cars player).2).2

/-- A set of numbers, as a map's entries. -/
def setE (l : List Int) : List (Ent Int) := l.mapIdx fun i p => ⟨p, .agg #[], i⟩
theorem atE_set (l : List Int) (p : Int) : atE p (setE l) = if p ∈ l then some (.agg #[]) else none := by
  have key : ∀ (l : List Int) (s : Nat), atE p (l.mapIdx fun i q => (⟨q, .agg #[], i + s⟩ : Ent Int)) = if p ∈ l then some (.agg #[]) else none := by
    intro l
    induction l with
    | nil => intro s; rfl
    | cons q r ih =>
      intro s
      rw [List.mapIdx_cons]
      unfold atE
      by_cases h : p = q
      · subst h; simp
      · rw [if_neg h]
        have := ih (s + 1)
        simp only [List.mem_cons, h, false_or]
        simpa [Nat.add_assoc, Nat.add_comm 1 s] using this
  simpa [setE] using key l 0
theorem setE_snoc (l : List Int) (p : Int) (h : p ∉ l) : mapObj intV (putE p (.agg #[]) l.length (setE l)) (clkE p l.length (setE l)) = mapObj intV (setE (l ++ [p])) (l ++ [p]).length := by
  have h1 : atE p (setE l) = none := by rw [atE_set, if_neg h]
  rw [putE_none _ _ _ _ h1]
  unfold clkE
  rw [h1]
  simp [setE, List.mapIdx_append]
theorem zeroUnit (w : World) : (zeroValue 87).run Try.prog w = .ok (.agg #[]) w := by kernel_rfl
theorem info_seen : (Try.prog.info? 43).map (fun i => (i.zero, i.size, i.bytes)) = some (some (.agg #[.int .i64 0, .int .i64 0, .int .i64 0, .int .i64 0, .int .i64 0]), 5, 40) := by kernel_rfl

theorem entC_len (l : List Car) (st : List Int × List Seen) : (l.foldl stepC st).1.length ≤ st.1.length + l.length ∧ (l.foldl stepC st).2.length ≤ st.2.length + l.length := by
  induction l generalizing st with
  | nil => simp
  | cons c l ih =>
    have h := ih (stepC st c)
    have h2 : (stepC st c).1.length ≤ st.1.length + 1 ∧ (stepC st c).2.length ≤ st.2.length + 1 := by
      unfold stepC
      split
      · simp
      · split <;> simp
    simp only [List.foldl_cons, List.length_cons]
    omega
theorem entS_len (l : List Shot) (st : List Int × List Seen) : (l.foldl stepS st).1.length ≤ st.1.length + l.length ∧ (l.foldl stepS st).2.length ≤ st.2.length + l.length := by
  induction l generalizing st with
  | nil => simp
  | cons c l ih =>
    have h := ih (stepS st c)
    have h2 : (stepS st c).1.length ≤ st.1.length + 1 ∧ (stepS st c).2.length ≤ st.2.length + 1 := by
      unfold stepS
      split <;> simp
    simp only [List.foldl_cons, List.length_cons]
    omega
def StB (w0 : World) (tick next : Int) (CA SA : Value) (w : World) : Prop := w.heap[w0.heap.size]? = some (.cells #[.int .u64 tick, CA, SA, .int .i64 next] 26 (0, 0))
def RelC (w0 : World) (tick next : Int) (CA SA : Value) (bm : Nat) (st : List Int × List Seen) (v : Value) (wr : World) : Prop :=
  Below w0.heap.size w0 wr ∧ StB w0 tick next CA SA wr ∧ wr.heap[bm]? = some (mapObj intV (setE st.1) st.1.length) ∧ wr.ownsRow w0.heap.size 43 5 v st.2.length (flat Seen.enc st.2)

theorem own_not {v : Value} {b : Nat} (h : v.ownBlock = none ∨ v.ownBlock ≠ some b) : ¬ (some b = v.ownBlock) := by
  intro e
  rcases h with h | h
  · rw [h] at e; cases e
  · exact h e.symm
theorem alloc_at {w : World} {n : Nat} (h : w.heap.size = n) (o : Obj) : (w.alloc o).heap[n]? = some o := by subst h; exact heap_alloc_new _ _
set_option maxRecDepth 100000 in
set_option maxHeartbeats 2000000 in
theorem entities_any (w : World) (tick next player : Int) (CA SA : Option Addr) (nc cc ns cs : Nat) (cars : List Car) (shots : List Shot)
    (hC : Reads w Car.enc 14 CA nc cars) (hS : Reads w Shot.enc 7 SA ns shots) (hrc : nc ≤ 1073741824) (hrs : ns ≤ 1073741824) :
    Calls Try.prog 22 #[.agg #[.int .u64 tick, .slice CA nc cc, .slice SA ns cs, .int .i64 next], .int .i64 player] w fun e w' => ∃ v, e = .returned v ∧
      w'.ownsRow w.heap.size 43 5 v (ents cars shots player).length (flat Seen.enc (ents cars shots player)) ∧ Below w.heap.size w w' := by
  have hmm := @run_makeMap Try.prog
  have hbm : ∀ box : Obj, ((w.alloc box).alloc (.map #[] 0)).heap[w.heap.size + 1]? = some (mapObj intV [] 0) := fun box => by
    have := heap_alloc_new (w.alloc box) (.map #[] 0)
    rw [World.size_alloc] at this
    exact this
  go_enter Try.func22, Try.ntmps22
  go_wp2_with (refine wpList_ins intVKeys rfl (.tmp 16) (.tmp 17) (.tmp 18) rfl Try.underlying88 rfl player rfl (.agg #[]) rfl (l := []) (clk := 0) (hbm _) ?_; intro w1 hs1 hn1; have hst := (hs1.block w.heap.size (by omega)).trans (hk_alloc (heap_alloc_new w _) _); have c21 := hk_cell hst 1)
  have hrel0 : RelC w tick next (.slice CA nc cc) (.slice SA ns cs) (w.heap.size + 1) ([player], []) (.slice none 0 0) w1 := by
    refine ⟨?_, hst, hn1, World.ownsRow_nil _ _ _ _⟩
    exact (Up.below (((Up.refl w).alloc _).alloc _)).trans ⟨hs1.grown.os, hs1.grown.tape, hs1.grown.output, hs1.grown.size, fun k hk => hs1.block k (by omega)⟩
  clear hs1 hn1 hst c21 hbm
  go_loopw [5, 23] (fun v c wr => ∃ k : Nat, c = .int .i64 k ∧ k ≤ nc ∧ RelC w tick next (.slice CA nc cc) (.slice SA ns cs) (w.heap.size + 1) ((cars.take k).foldl stepC ([player], [])) v wr) (fun _ c _ => nc - (intOf c).toNat)
  case atStart => exact ⟨0, by simp, by omega, hrel0⟩
  case round =>
    obtain ⟨k, rfl, hk, hb, hst, hm, ho⟩ := hrel
    by_cases hlt : k < nc
    · obtain ⟨c, hc⟩ : ∃ c, cars[k]? = some c := ⟨_, List.getElem?_eq_getElem (by rw [hC.1]; exact hlt)⟩
      have htk : cars.take (k + 1) = cars.take k ++ [c] := by
        have hl : k < cars.length := by rw [hC.1]; exact hlt
        rw [List.take_succ_eq_append_getElem hl]
        rw [List.getElem?_eq_getElem hl] at hc
        rw [Option.some.inj hc]
      have hfold : (cars.take (k + 1)).foldl stepC ([player], []) = stepC ((cars.take k).foldl stepC ([player], [])) c := by rw [htk, List.foldl_append]; rfl
      have hlen := entC_len (cars.take k) ([player], [])
      have hlt' : (cars.take k).length = k := by rw [List.length_take, hC.1]; omega
      rw [hlt'] at hlen
      have HF := Lib.hid hfold
      clear hfold htk hlt'
      generalize (cars.take k).foldl stepC ([player], []) = st at *
      obtain ⟨bC, off, hCA, hbl, hcells⟩ := (hC.below hb).2 (by omega)
      have hd := hcells k c
      have d0 : wr.cell? ⟨bC, off + k * 14, none⟩ = some (.int .i64 c.player) := hd 0 _ hc rfl
      have d1 : wr.cell? ⟨bC, off + k * 14 + 1, none⟩ = some (.string c.name) := hd 1 _ hc rfl
      have d2 : wr.cell? ⟨bC, off + k * 14 + 2, none⟩ = some (.int .i64 c.x) := hd 2 _ hc rfl
      have d3 : wr.cell? ⟨bC, off + k * 14 + 3, none⟩ = some (.int .i64 c.y) := hd 3 _ hc rfl
      have d4 : wr.cell? ⟨bC, off + k * 14 + 4, none⟩ = some (.int .i64 c.sx) := hd 4 _ hc rfl
      have d5 : wr.cell? ⟨bC, off + k * 14 + 5, none⟩ = some (.int .i64 c.sy) := hd 5 _ hc rfl
      have d6 : wr.cell? ⟨bC, off + k * 14 + 6, none⟩ = some (.int .i64 c.heading) := hd 6 _ hc rfl
      have d7 : wr.cell? ⟨bC, off + k * 14 + 7, none⟩ = some (.int .i64 c.health) := hd 7 _ hc rfl
      have d8 : wr.cell? ⟨bC, off + k * 14 + 8, none⟩ = some (.int .i64 c.energy) := hd 8 _ hc rfl
      have d9 : wr.cell? ⟨bC, off + k * 14 + 9, none⟩ = some (.int .i64 c.ammo) := hd 9 _ hc rfl
      have d10 : wr.cell? ⟨bC, off + k * 14 + 10, none⟩ = some (.int .i64 c.cool) := hd 10 _ hc rfl
      have d11 : wr.cell? ⟨bC, off + k * 14 + 11, none⟩ = some (.int .i64 c.wait) := hd 11 _ hc rfl
      have d12 : wr.cell? ⟨bC, off + k * 14 + 12, none⟩ = some (.int .i64 c.spawns) := hd 12 _ hc rfl
      have d13 : wr.cell? ⟨bC, off + k * 14 + 13, none⟩ = some (.int .i64 c.score) := hd 13 _ hc rfl
      have hml : ∀ W : World, W.heap[w.heap.size + 1]? = some (mapObj intV (setE st.1) st.1.length) → (Instr.lookup 88 (.map (some (w.heap.size + 1))) (.int .i64 c.player) true).run Try.prog W = .ok (.tuple #[.agg #[], .bool (decide (c.player ∈ st.1))]) W := by
        intro W hW
        have := run_lookup_E intVKeys Try.underlying88 (zeroUnit W) hW c.player true
        rw [atE_set] at this
        by_cases hin : c.player ∈ st.1
        · rw [if_pos hin] at this; rw [decide_eq_true hin]; exact this
        · rw [if_neg hin] at this; rw [decide_eq_false hin]; exact this
      have hmW : ∀ o : Obj, (wr.alloc o).heap[w.heap.size + 1]? = some (mapObj intV (setE st.1) st.1.length) := fun o => hk_alloc hm o
      have hl1 : w.heap.size + 1 < wr.heap.size := hk_lt hm
      subst hCA
      clear hd hcells hrel0
      by_cases hin : c.player ∈ st.1
      · have hdin : decide (c.player ∈ st.1) = true := decide_eq_true hin
        go_wp2_with fail
        go_roundw
        case rel =>
          refine ⟨k + 1, by go_num, by omega, ?_⟩
          rw [HF.out]
          unfold stepC
          rw [if_pos hin]
          have hu : Up wr _ := ((Up.refl wr).alloc (.cells #[.int .i64 c.player, .string c.name, .int .i64 c.x, .int .i64 c.y, .int .i64 c.sx, .int .i64 c.sy, .int .i64 c.heading, .int .i64 c.health, .int .i64 c.energy, .int .i64 c.ammo, .int .i64 c.cool, .int .i64 c.wait, .int .i64 c.spawns, .int .i64 c.score] 33)).alloc (.cells #[] 87)
          exact ⟨hb.trans (hu.below.mono hb.size), hk_up hu hst, hk_up hu hm, own_up ho hu⟩
        case measure => simp [intOf]; omega
      · have hdin : decide (c.player ∈ st.1) = false := decide_eq_false hin
        have hne1 : wr.heap.size ≠ w.heap.size + 1 := by omega
        by_cases hw : c.wait ≤ 0
        · have hdw : decide (c.wait ≤ 0) = true := decide_eq_true hw
          have nst : w.heap.size ≠ w.heap.size + 1 := by omega
          have nbb : w.heap.size ≤ wr.heap.size := by omega
          have hrm : st.2.length ≤ 1073741824 := by have := hlen.2; simp at this; omega
          have hlen1 : st.2.length + 1 ≤ 9223372036854775807 := by omega
          have hlen2 : (st.2.length + 1) * 40 ≤ 140737488355328 := by omega
          have N70 := Lib.hid (own_ne_map (ho) hm)
          have nb4 : ∀ o o' : Obj, ((wr.alloc o).alloc o').heap.size = wr.heap.size + 1 + 1 := fun o o' => by simp
          have nb3 : ∀ o o' : Obj, w.heap.size ≤ ((wr.alloc o).alloc o').heap.size := fun o o' => by simp; omega
          go_wp2_with (first
            | (refine wpList_upd intVKeys rfl (.tmp 35) (.tmp 37) (.tmp 38) rfl Try.underlying88 rfl c.player rfl (.agg #[]) rfl (hk_alloc (hk_alloc hm _) _) ?_; intro w2 hs2 hn2; have hbx := (hs2.block wr.heap.size hne1).trans (hk_alloc (heap_alloc_new wr _) _); have cb0 := hk_cell hbx 0; have cb2 := hk_cell hbx 2; have cb3 := hk_cell hbx 3; have cb4 := hk_cell hbx 4; have cb5 := hk_cell hbx 5; have cb6 := hk_cell hbx 6; have cb11 := hk_cell hbx 11; have hsz2 := hs2.size.trans (nb4 _ _); have ho2 := World.ownsRow.kept ((ho.alloc _).alloc _) hs2.grown N70.out)
            | (at_builtin; go_loud (refine wpList_append rfl w.heap.size (.tmp 42) (.tmp 50) 43 (.agg #[.int .i64 0, .int .i64 0, .int .i64 0, .int .i64 0, .int .i64 0]) 5 40 rfl Try.underlying34 info_seen rfl (by omega) u5 _ _ [.int .i64 1, .int .i64 c.player, .int .i64 c.x, .int .i64 c.y, .int .i64 c.heading] rfl (wr.heap.size + 1 + 1) rfl (alloc_at hsz2 _) rfl (by simp [Value.oneCell']) (ho2.alloc _) (Nat.le_trans (Nat.le_trans (nb3 _ _) (Nat.le_of_eq hs2.size.symm)) (by simp)) hlen1 hlen2 ?_; intro gg cap w3 ho3 hg3 hat3)))
          refine ⟨⟨k + 1, by go_num, by omega, ?_⟩, by simp [intOf]; omega⟩
          rw [HF.out]
          unfold stepC
          rw [if_neg hin, if_pos hw]
          have kp : Kp (fun b => b = w.heap.size + 1 ∨ some b = u5.ownBlock) wr w3 := ((Kp.alloc _ _).trans (Kp.alloc _ _)).trans ((Kp.grown hs2.grown (fun k hk => .inl (Option.some.inj hk).symm)).trans ((Kp.alloc _ _).trans (Kp.grown hg3 (fun k hk => .inr hk.symm))))
          refine ⟨hb.trans (kp.below nbb ?_), kp.at hst ?_, ?_, ?_⟩
          · rintro k (rfl | hk)
            · omega
            · exact (ho.lt k hk.symm).1
          · rintro (h | h)
            · exact nst h
            · exact own_ne_cells ho hst (by decide) h
          · have h1 := Kp.at (S := fun b => some b = u5.ownBlock) (Kp.grown hg3 (fun k hk => hk.symm)) (hk_alloc hn2 _) (own_not N70.out)
            rw [h1, setE_snoc _ _ hin]
          · rw [flat_snoc, List.length_append]
            exact ho3
        · have hdw : decide (c.wait ≤ 0) = false := decide_eq_false hw
          have nst : w.heap.size ≠ w.heap.size + 1 := by omega
          have nbb : w.heap.size ≤ wr.heap.size := by omega
          have N70 := Lib.hid (own_ne_map (ho) hm)
          have nb4 : ∀ o o' : Obj, ((wr.alloc o).alloc o').heap.size = wr.heap.size + 1 + 1 := fun o o' => by simp
          go_wp2_with (refine wpList_upd intVKeys rfl (.tmp 35) (.tmp 37) (.tmp 38) rfl Try.underlying88 rfl c.player rfl (.agg #[]) rfl (hk_alloc (hk_alloc hm _) _) ?_; intro w2 hs2 hn2; have hbx := (hs2.block wr.heap.size hne1).trans (hk_alloc (heap_alloc_new wr _) _); have cb11 := hk_cell hbx 11; have hsz2 := hs2.size.trans (nb4 _ _); have ho2 := World.ownsRow.kept ((ho.alloc _).alloc _) hs2.grown N70.out)
          refine ⟨⟨k + 1, by go_num, by omega, ?_⟩, by simp [intOf]; omega⟩
          rw [HF.out]
          unfold stepC
          rw [if_neg hin, if_neg hw]
          have kp : Kp (fun b => b = w.heap.size + 1) wr w2 := ((Kp.alloc _ _).trans (Kp.alloc _ _)).trans (Kp.grown hs2.grown (fun k hk => (Option.some.inj hk).symm))
          refine ⟨hb.trans (kp.below nbb ?_), kp.at hst nst, ?_, ?_⟩
          · rintro k rfl
            omega
          · rw [hn2, setE_snoc _ _ hin]
          · simpa using ho2
    · obtain rfl : nc = k := by omega
      have c22 : wr.cell? ⟨w.heap.size, 2, none⟩ = some (.slice SA ns cs) := hk_cell hst 2
      have hwl : w.heap.size < wr.heap.size := hk_lt hst
      have hwn : w.heap.size ≠ wr.heap.size := by omega
      rw [← hC.1, List.take_length] at hm ho
      have hrel1 : ∃ wq, wq = wr := ⟨_, rfl⟩
      go_wp2_with fail
      obtain ⟨we, hwe⟩ : ∃ we, we = wr.alloc (.map #[] 0) := ⟨_, rfl⟩
      have hue : Up wr we := by rw [hwe]; exact (Up.refl wr).alloc _
      have hme : we.heap[wr.heap.size]? = some (mapObj intV (setE []) 0) := by rw [hwe]; exact heap_alloc_new _ _
      have hst1 := hk_up hue hst
      have ho1 := own_up ho hue
      have hb1 := hb.trans (hue.below.mono hb.size)
      rw [← hwe]
      clear hwe c22 hrel1 hrel0 ho hb hm hue
      generalize wr.heap.size = bm2 at *
      go_loopw [5, 57] (fun v c wr => ∃ k : Nat, c = .int .i64 k ∧ k ≤ ns ∧ RelC w tick next (.slice CA nc cc) (.slice SA ns cs) bm2 ((shots.take k).foldl stepS ([], (entC cars player).2)) v wr) (fun _ c _ => ns - (intOf c).toNat)
      case atStart => exact ⟨0, by simp, by omega, hb1, hst1, hme, ho1⟩
      case round =>
        obtain ⟨k2, rfl, hk2, hb2, hst2, hm2, ho2⟩ := hrel
        by_cases hlt2 : k2 < ns
        · obtain ⟨c, hc⟩ : ∃ c, shots[k2]? = some c := ⟨_, List.getElem?_eq_getElem (by rw [hS.1]; exact hlt2)⟩
          have htk : shots.take (k2 + 1) = shots.take k2 ++ [c] := by
            have hl : k2 < shots.length := by rw [hS.1]; exact hlt2
            rw [List.take_succ_eq_append_getElem hl]
            rw [List.getElem?_eq_getElem hl] at hc
            rw [Option.some.inj hc]
          have hfold : (shots.take (k2 + 1)).foldl stepS ([], (entC cars player).2) = stepS ((shots.take k2).foldl stepS ([], (entC cars player).2)) c := by rw [htk, List.foldl_append]; rfl
          have hlen := entS_len (shots.take k2) ([], (entC cars player).2)
          have hlen0 := entC_len cars ([player], [])
          have hlt' : (shots.take k2).length = k2 := by rw [List.length_take, hS.1]; omega
          rw [hlt'] at hlen
          rw [hC.1] at hlen0
          have hrm0 : ((shots.take k2).foldl stepS ([], (entC cars player).2)).2.length ≤ 2147483648 := by
            have h1 := hlen.2
            have h2 := hlen0.2
            simp only [entC, List.length_nil] at h1 h2 ⊢
            omega
          have HF := Lib.hid hfold
          clear hfold htk hlt' hlen hlen0
          generalize (shots.take k2).foldl stepS ([], (entC cars player).2) = st at *
          obtain ⟨bC, off, hCA, hbl, hcells⟩ := (hS.below hb2).2 (by omega)
          have hd := hcells k2 c
          have d0 : wr.cell? ⟨bC, off + k2 * 7, none⟩ = some (.int .i64 c.id) := hd 0 _ hc rfl
          have d1 : wr.cell? ⟨bC, off + k2 * 7 + 1, none⟩ = some (.int .i64 c.player) := hd 1 _ hc rfl
          have d2 : wr.cell? ⟨bC, off + k2 * 7 + 2, none⟩ = some (.int .i64 c.x) := hd 2 _ hc rfl
          have d3 : wr.cell? ⟨bC, off + k2 * 7 + 3, none⟩ = some (.int .i64 c.y) := hd 3 _ hc rfl
          have d4 : wr.cell? ⟨bC, off + k2 * 7 + 4, none⟩ = some (.int .i64 c.sx) := hd 4 _ hc rfl
          have d5 : wr.cell? ⟨bC, off + k2 * 7 + 5, none⟩ = some (.int .i64 c.sy) := hd 5 _ hc rfl
          have d6 : wr.cell? ⟨bC, off + k2 * 7 + 6, none⟩ = some (.int .i64 c.left) := hd 6 _ hc rfl
          have hml : ∀ W : World, W.heap[bm2]? = some (mapObj intV (setE st.1) st.1.length) → (Instr.lookup 88 (.map (some bm2)) (.int .i64 c.id) true).run Try.prog W = .ok (.tuple #[.agg #[], .bool (decide (c.id ∈ st.1))]) W := by
            intro W hW
            have := run_lookup_E intVKeys Try.underlying88 (zeroUnit W) hW c.id true
            rw [atE_set] at this
            by_cases hin : c.id ∈ st.1
            · rw [if_pos hin] at this; rw [decide_eq_true hin]; exact this
            · rw [if_neg hin] at this; rw [decide_eq_false hin]; exact this
          have hmW : ∀ o : Obj, (wr.alloc o).heap[bm2]? = some (mapObj intV (setE st.1) st.1.length) := fun o => hk_alloc hm2 o
          have hl1 : bm2 < wr.heap.size := hk_lt hm2
          subst hCA
          clear hd hcells
          by_cases hin : c.id ∈ st.1
          · have hdin : decide (c.id ∈ st.1) = true := decide_eq_true hin
            go_wp2_with fail
            go_roundw
            case rel =>
              refine ⟨k2 + 1, by go_num, by omega, ?_⟩
              rw [HF.out]
              unfold stepS
              rw [if_pos hin]
              have hu : Up wr _ := ((Up.refl wr).alloc (.cells #[.int .i64 c.id, .int .i64 c.player, .int .i64 c.x, .int .i64 c.y, .int .i64 c.sx, .int .i64 c.sy, .int .i64 c.left] 45)).alloc (.cells #[] 87)
              exact ⟨hb2.trans (hu.below.mono hb2.size), hk_up hu hst2, hk_up hu hm2, own_up ho2 hu⟩
            case measure => simp [intOf]; omega
          · have hdin : decide (c.id ∈ st.1) = false := decide_eq_false hin
            have hne1 : wr.heap.size ≠ bm2 := by omega
            have nbb : w.heap.size ≤ wr.heap.size := by omega
            have hlen1 : st.2.length + 1 ≤ 9223372036854775807 := by omega
            have hlen2 : (st.2.length + 1) * 40 ≤ 140737488355328 := by omega
            have N70 := Lib.hid (own_ne_map ho2 hm2)
            have nb4 : ∀ o o' : Obj, ((wr.alloc o).alloc o').heap.size = wr.heap.size + 1 + 1 := fun o o' => by simp
            have nb3 : ∀ o o' : Obj, w.heap.size ≤ ((wr.alloc o).alloc o').heap.size := fun o o' => by simp; omega
            go_wp2_with (first
              | (refine wpList_upd intVKeys rfl (.tmp 70) (.tmp 72) (.tmp 73) rfl Try.underlying88 rfl c.id rfl (.agg #[]) rfl (hk_alloc (hk_alloc hm2 _) _) ?_; intro w2 hs2 hn2; have hbx := (hs2.block wr.heap.size hne1).trans (hk_alloc (heap_alloc_new wr _) _); have cb0 := hk_cell hbx 0; have cb2 := hk_cell hbx 2; have cb3 := hk_cell hbx 3; have cb4 := hk_cell hbx 4; have cb5 := hk_cell hbx 5; have hsz2 := hs2.size.trans (nb4 _ _); have ho3 := World.ownsRow.kept ((ho2.alloc _).alloc _) hs2.grown N70.out)
              | (at_builtin; go_loud (refine wpList_append rfl w.heap.size (.tmp 74) (.tmp 80) 43 (.agg #[.int .i64 0, .int .i64 0, .int .i64 0, .int .i64 0, .int .i64 0]) 5 40 rfl Try.underlying34 info_seen rfl (by omega) u5 _ _ [.int .i64 2, .int .i64 c.id, .int .i64 c.x, .int .i64 c.y, .int .i64 0] rfl (wr.heap.size + 1 + 1) rfl (alloc_at hsz2 _) rfl (by simp [Value.oneCell']) (ho3.alloc _) (Nat.le_trans (Nat.le_trans (nb3 _ _) (Nat.le_of_eq hs2.size.symm)) (by simp)) hlen1 hlen2 ?_; intro gg cap w3 ho4 hg3 hat3)))
            refine ⟨⟨k2 + 1, by go_num, by omega, ?_⟩, by simp [intOf]; omega⟩
            rw [HF.out]
            unfold stepS
            rw [if_neg hin]
            have kp : Kp (fun b => b = bm2 ∨ some b = u5.ownBlock) wr w3 := ((Kp.alloc _ _).trans (Kp.alloc _ _)).trans ((Kp.grown hs2.grown (fun k hk => .inl (Option.some.inj hk).symm)).trans ((Kp.alloc _ _).trans (Kp.grown hg3 (fun k hk => .inr hk.symm))))
            refine ⟨hb2.trans (kp.below nbb ?_), kp.at hst2 ?_, ?_, ?_⟩
            · rintro k (rfl | hk)
              · omega
              · exact (ho2.lt k hk.symm).1
            · rintro (h | h)
              · omega
              · exact own_ne_cells ho2 hst2 (by decide) h
            · have h1 := Kp.at (S := fun b => some b = u5.ownBlock) (Kp.grown hg3 (fun k hk => hk.symm)) (hk_alloc hn2 _) (own_not N70.out)
              rw [h1, setE_snoc _ _ hin]
            · rw [flat_snoc, List.length_append]
              exact ho4
        · obtain rfl : ns = k2 := by omega
          rw [← hS.1, List.take_length] at hm2 ho2
          go_wp2_with fail
          go_ret
          exact ⟨_, rfl, ho2, hb2⟩
end Go.Proofs.Ytnjgkgbgmjoceaa
