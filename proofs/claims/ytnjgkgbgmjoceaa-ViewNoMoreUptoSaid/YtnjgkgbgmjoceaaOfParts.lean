/-
  What view.Of calls of the library: the index of a player's car; a copy.
-/
import Derived.Test.YtnjgkgbgmjoceaaIter
set_option linter.unusedSimpArgs false
set_option linter.unusedVariables false
namespace Go.Proofs.Ytnjgkgbgmjoceaa
open Go.RowKit Go.ChangeMaps Go.Sort

def Car.val (c : Car) : Value := .agg #[.int .i64 c.player, .string c.name, .int .i64 c.x, .int .i64 c.y, .int .i64 c.sx, .int .i64 c.sy, .int .i64 c.heading, .int .i64 c.health, .int .i64 c.energy, .int .i64 c.ammo, .int .i64 c.cool, .int .i64 c.wait, .int .i64 c.spawns, .int .i64 c.score]

set_option maxHeartbeats 1000000 in
theorem isPlayer_any (c : Car) (b : Nat) (p : Int) (w : World) (hb : w.cell? ⟨b, 0, none⟩ = some (.int .i64 p)) :
    Calls Try.prog 20 #[c.val, .pointer (some ⟨b, 0, none⟩)] w fun e w' => e = .returned (.bool (decide (c.player = p))) ∧ Up w w' := by
  have hlt : b < w.heap.size := World.block_lt_of_cell? w _ hb
  unfold Car.val
  go_enter Try.func20, Try.ntmps20
  go_wp2_with fail
  go_ret
  refine ⟨?_, (Up.refl w).alloc _⟩
  exact ret_bool (by by_cases h : c.player = p <;> simp [h])

theorem find_at {l : List Car} {k : Nat} {x : Car} {p : Int} (hx : l[k]? = some x) (hp : x.player = p) (h : ∀ y ∈ l.take k, y.player ≠ p) : l.findIdx? (fun c => decide (c.player = p)) = some k := by
  rw [List.findIdx?_eq_some_iff_getElem]
  obtain ⟨hk, rfl⟩ := List.getElem?_eq_some_iff.1 hx
  refine ⟨hk, by simpa using hp, fun j hj => ?_⟩
  have : l[j] ∈ l.take k := by
    rw [List.mem_take_iff_getElem]
    exact ⟨j, by omega, rfl⟩
  simpa using h _ this
set_option maxRecDepth 100000 in
set_option maxHeartbeats 1000000 in
theorem indexFunc_any (w : World) (b : Nat) (p : Int) (A : Option Addr) (n c : Nat) (cars : List Car) (hC : Reads w Car.enc 14 A n cars) (hb : w.cell? ⟨b, 0, none⟩ = some (.int .i64 p)) (hn : n ≤ 1073741824) :
    Calls Try.prog 19 #[.slice A n c, .func (.func 20) #[] #[.pointer (some ⟨b, 0, none⟩)]] w fun e w' =>
      e = .returned (.int .i64 ((cars.findIdx? (fun c => decide (c.player = p))).elim (-1) Int.ofNat)) ∧ Up w w' := by
  have hlt : b < w.heap.size := World.block_lt_of_cell? w _ hb
  go_enter Try.func19, Try.ntmps19
  go_wp2_with fail
  go_loopw [8] (fun c wr => ∃ k : Nat, c = .int .i64 k ∧ k ≤ n ∧ (∀ x ∈ cars.take k, x.player ≠ p) ∧ Up w wr) (fun c _ => n - (intOf c).toNat)
  case atStart => exact ⟨0, by simp, by omega, by simp, Up.refl w⟩
  case round =>
    obtain ⟨k, rfl, hk, hne, hu⟩ := hrel
    by_cases hkl : k < n
    · obtain ⟨x, hx⟩ : ∃ x, cars[k]? = some x := ⟨_, List.getElem?_eq_getElem (by rw [hC.1]; exact hkl)⟩
      obtain ⟨bC, off, rfl, hbl, hcells⟩ := (hC.below hu.below).2 (by omega)
      have hd := hcells k x
      have d0 : wr.cell? ⟨bC, off + k * 14, none⟩ = some (.int .i64 x.player) := hd 0 _ hx rfl
      have d1 : wr.cell? ⟨bC, off + k * 14 + 1, none⟩ = some (.string x.name) := hd 1 _ hx rfl
      have d2 : wr.cell? ⟨bC, off + k * 14 + 2, none⟩ = some (.int .i64 x.x) := hd 2 _ hx rfl
      have d3 : wr.cell? ⟨bC, off + k * 14 + 3, none⟩ = some (.int .i64 x.y) := hd 3 _ hx rfl
      have d4 : wr.cell? ⟨bC, off + k * 14 + 4, none⟩ = some (.int .i64 x.sx) := hd 4 _ hx rfl
      have d5 : wr.cell? ⟨bC, off + k * 14 + 5, none⟩ = some (.int .i64 x.sy) := hd 5 _ hx rfl
      have d6 : wr.cell? ⟨bC, off + k * 14 + 6, none⟩ = some (.int .i64 x.heading) := hd 6 _ hx rfl
      have d7 : wr.cell? ⟨bC, off + k * 14 + 7, none⟩ = some (.int .i64 x.health) := hd 7 _ hx rfl
      have d8 : wr.cell? ⟨bC, off + k * 14 + 8, none⟩ = some (.int .i64 x.energy) := hd 8 _ hx rfl
      have d9 : wr.cell? ⟨bC, off + k * 14 + 9, none⟩ = some (.int .i64 x.ammo) := hd 9 _ hx rfl
      have d10 : wr.cell? ⟨bC, off + k * 14 + 10, none⟩ = some (.int .i64 x.cool) := hd 10 _ hx rfl
      have d11 : wr.cell? ⟨bC, off + k * 14 + 11, none⟩ = some (.int .i64 x.wait) := hd 11 _ hx rfl
      have d12 : wr.cell? ⟨bC, off + k * 14 + 12, none⟩ = some (.int .i64 x.spawns) := hd 12 _ hx rfl
      have d13 : wr.cell? ⟨bC, off + k * 14 + 13, none⟩ = some (.int .i64 x.score) := hd 13 _ hx rfl
      clear hd hcells
      have hbr : wr.cell? ⟨b, 0, none⟩ = some (.int .i64 p) := ((ucell hu).1 b 0 hlt).trans hb
      have hc : ∀ W : World, W.cell? ⟨b, 0, none⟩ = some (.int .i64 p) → _ := fun W hW => isPlayer_any x b p W hW
      unfold Car.val at hc
      go_wp2_with (go_at_call 20; refine (hc _ (by assumption)).mono ?_; rintro e w' ⟨rfl, hu1⟩)
      · go_ret
        have hxp : x.player = p := by assumption
        refine ⟨ret_int ?_, hu.trans hu1⟩
        have : cars.findIdx? (fun c => decide (c.player = p)) = some k := find_at hx hxp hne
        rw [this]
        rfl
      · have hxp : ¬ x.player = p := by assumption
        refine ⟨⟨k + 1, by go_num, by omega, ?_, hu.trans hu1⟩, by simp [intOf]; omega⟩
        have hkl2 : k < cars.length := by rw [hC.1]; exact hkl
        rw [List.take_succ_eq_append_getElem hkl2]
        intro y hy
        rcases List.mem_append.1 hy with hy | hy
        · exact hne y hy
        · have : y = x := by
            rw [List.getElem?_eq_getElem hkl2] at hx
            rw [← Option.some.inj hx]
            simpa using hy
          rw [this]
          exact hxp
    · obtain rfl : n = k := by omega
      rw [← hC.1, List.take_length] at hne
      go_wp2_with fail
      go_ret
      refine ⟨ret_int ?_, hu⟩
      have : cars.findIdx? (fun c => decide (c.player = p)) = none := by
        rw [List.findIdx?_eq_none_iff]
        intro x hx
        simpa using hne x hx
      rw [this]
      rfl

theorem eq_nil_slice (A : Option Addr) (m c : Nat) : ∀ W, (binOp .eql 34 (.slice A m c) (.slice none 0 0)).run Try.prog W = .ok (.bool A.isNone) W := by
  intro W
  cases A <;> kernel_rfl
theorem wpList_append_run {P : Program} {ops : Array Oper} {rest : List Oper} {o : Oper} {a : Act} {Q : Exit → Act → World → Prop} {w : World} {t : TypeId} {v1 : Value} {w1 : World} (hg : o.guard = none) (s x : Operand) (ho : o.op = .call { callee := .builtin .append, args := #[s, x], argTypes := #[t, t] }) (v y : Value) (hs : a.eval s = v) (hx : a.eval x = y)
    (hr : (Builtin.append_ #[t, t] o.type #[v, y]).run P w = .ok v1 w1) (hK : wpList P ops Q rest (a.put o.dst v1) w1) : wpList P ops Q (o :: rest) a w := by
  refine wpList_run hg (v := v1) (w' := w1) ?_ hK
  unfold execOp
  simp only [ho, resolve, invoke, builtin, Sem.run_bind, Sem.run_pure, Result.andThen_ok, List.map_toArray, List.map_cons, List.map_nil, hs, hx, hr]
theorem cell0_seen : Seen.enc ⟨0, 0, 0, 0, 0⟩ = [.int .i64 0, .int .i64 0, .int .i64 0, .int .i64 0, .int .i64 0] := rfl
set_option maxRecDepth 100000 in
set_option maxHeartbeats 1000000 in
/-- slices.Clone of the head of a row of one's own. -/
theorem clone_any (w : World) (base : Nat) (A : Option Addr) (n c m : Nat) (es : List Seen) (hown : w.ownsRow base 43 5 (.slice A n c) n (flat Seen.enc es)) (hn : es.length = n) (hm : m ≤ n) (hr : n ≤ 4294967296) :
    Calls Try.prog 29 #[.slice A m c] w fun e w' => ∃ v, e = .returned v ∧ w'.ownsRow w.heap.size 43 5 v m (flat Seen.enc (es.take m)) ∧ Below w.heap.size w w' := by
  go_enter Try.func29, Try.ntmps29
  rcases hown.2 with ⟨h1, h0⟩ | ⟨g, cap, cur, h1, hb, hg, hnc, hcm, hcs, htk⟩
  · injection h1 with e1 e2 e3
    subst e1 e2 e3
    obtain rfl : m = 0 := by omega
    have hbo := eq_nil_slice none 0 0
    go_wp2_with fail
    go_ret
    exact ⟨_, rfl, World.ownsRow_nil _ _ _ _, Below.refl _ w⟩
  · injection h1 with e1 e2 e3
    have e4 : cap = c := e3.symm
    clear e3
    subst e1 e4
    have l0 := hk_lt hg
    have hnew : ∀ j u, (flat Seen.enc (es.take m))[j]? = some u → (w.alloc (.cells #[] 43)).cell? ((⟨g, 0, none⟩ : Addr).add j) = some u := by
      intro j u hu
      have hlen : (flat Seen.enc (es.take m)).length = m * 5 := by rw [flat_length seen_len, List.length_take, hn]; congr 1; omega
      have hj : j < m * 5 := by rw [← hlen]; exact (List.getElem?_eq_some_iff.1 hu).1
      have e1 : (flat Seen.enc es)[j]? = some u := by
        have e2 : flat Seen.enc es = flat Seen.enc (es.take m) ++ flat Seen.enc (es.drop m) := by rw [← flat_append, List.take_append_drop]
        rw [e2, List.getElem?_append_left (by rw [hlen]; exact hj)]
        exact hu
      have hj2 : j < n * 5 := by omega
      rw [← htk, List.getElem?_take, if_pos hj2, Array.getElem?_toList] at e1
      have := hk_cell (hk_alloc hg (.cells #[] 43)) j
      rw [e1] at this
      have e : ((⟨g, 0, none⟩ : Addr).add j) = ⟨g, j, none⟩ := by
        unfold Addr.add
        split
        · subst_vars; rfl
        · simp
      rw [e]
      exact this
    have hone : ∀ u ∈ flat Seen.enc (es.take m), u.oneCell' = true := by
      intro u hu
      simp only [flat, List.mem_flatMap] at hu
      obtain ⟨s, _, hs⟩ := hu
      simp [Seen.enc] at hs
      rcases hs with rfl | rfl | rfl | rfl | rfl <;> rfl
    obtain ⟨i0, hi, hzz⟩ := Option.map_eq_some_iff.1 info_seen
    simp only [Prod.mk.injEq] at hzz
    obtain ⟨hz0, hz1, hz2⟩ := hzz
    obtain ⟨v1, w1, hr1, ho1, hg1, hnil, hat⟩ := run_append_own_at (P := Try.prog) (w.alloc (.cells #[] 43)) w.heap.size 34 34 43 i0 _ 5 40 Try.underlying34 hi hz0 hz1 hz2 rfl (by omega)
      (.slice (some ⟨w.heap.size, 0, none⟩) 0 0) 0 [] (World.ownsRow_lit w #[] 0 (Nat.le_refl _) (by simp [maxLen]) rfl) ⟨g, 0, none⟩ m cap (flat Seen.enc (es.take m)) (by rw [flat_length seen_len, List.length_take, hn]; congr 1; omega) hnew hone (by simp only [maxLen]; omega) (by omega) (by simp)
    have HR1 := Lib.hid hr1
    have hbo := eq_nil_slice (some ⟨g, 0, none⟩) m cap
    clear hr1
    go_wp2_with (at_builtin; go_loud (refine wpList_append_run rfl (.tmp 5) (.tmp 6) rfl (.slice (some ⟨w.heap.size, 0, none⟩) 0 0) (.slice (some ⟨g, 0, none⟩) m cap) rfl rfl HR1.out ?_))
    go_ret
    refine ⟨_, rfl, by simpa using ho1, ?_⟩
    exact ((Below.refl _ w).alloc (Nat.le_refl _) _).grown hg1 (by simp) (fun k e => by cases e; exact Nat.le_refl _)
end Go.Proofs.Ytnjgkgbgmjoceaa
