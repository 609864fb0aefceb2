/-
  ViewNoMore: for every state and ask of bulk at most 1048576 the law returns true, and its arguments read as before.
-/
import Derived.Test.YtnjgkgbgmjoceaaRow
import Derived.Test.YtnjgkgbgmjoceaaNoMore
import Derived.Test.YtnjgkgbgmjoceaaNoNone
set_option linter.unusedSimpArgs false
set_option linter.unusedVariables false
namespace Go.Proofs.Ytnjgkgbgmjoceaa
open Go.RowKit Go.WideShapes Go.ChangeShapes Go.ChangeAt Go.Deep Go.Joins

theorem noMore_all (w : World) (tick next player radius «show» : Int) (CA SA : Option Addr) (nc cc ns cs : Nat) (cars : List Car) (shots : List Shot)
    (hC : Reads w Car.enc 14 CA nc cars) (hS : Reads w Shot.enc 7 SA ns shots) (hrc : nc ≤ 1073741824) (hrs : ns ≤ 1073741824) (hoc : ∀ c ∈ cars, c.ok) (hos : ∀ c ∈ shots, c.ok) :
    Calls Try.prog 3 #[.agg #[.int .u64 tick, .slice CA nc cc, .slice SA ns cs, .int .i64 next], .agg #[.int .i64 player, .int .i64 radius, .int .i64 «show»]] w fun e w' => e = .returned (.bool true) ∧ Below w.heap.size w w' := by
  cases hfi : cars.findIdx? (fun c => decide (c.player = player)) with
  | none => exact noMore_none w tick next player radius «show» CA SA nc cc ns cs cars shots hC hS hrc hrs hoc hos hfi
  | some k => exact noMore_some w tick next player radius «show» CA SA nc cc ns cs cars shots hC hS hrc hrs hoc hos k hfi

set_option maxRecDepth 100000 in
theorem noMore_step (H : Type) (enc : TypeId × Value → H) (W : World) (base : Nat) (args : Array Value) (ds gs : List (DataW H)) (before : List MemPlace)
    (hval : ∀ (j : Nat) t v, Try.f3.params[j]? = some t → args[j]? = some v → Value.okWide Try.prog W .any base t v)
    (hW : DataW.Whole enc Try.prog Try.f3.params.toList Rows.viewNoMoreSpec.vars false W args.toList ds gs before) (hk : Rows.uptoSmall H (ds ++ gs) = true) :
    Calls Try.prog 3 args W fun e W' => ∃ v, e = .returned v ∧ Rows.viewNoMoreSpec.post enc Try.prog Try.f3 false true false false W args v W' := by
  have hW' := hW
  obtain ⟨p, q, hA0, hV, rfl, hfz, hnd⟩ := hW
  have hA : DataW.TrodAll enc Try.prog W 0 (fun _ => true) true Try.f3.params.toList args.toList ds p := hA0
  rw [Try.params3] at hA hval
  obtain ⟨v0, vs0, d0, ds0, p0, q0, hargs, rfl, rfl, h0, r0⟩ := trodAll_cons hA
  obtain ⟨v1, vs1, d1, ds1, p1, q1, rfl, rfl, rfl, h1, r1⟩ := trodAll_cons r0
  obtain ⟨rfl, rfl, rfl⟩ := trodAll_nil r1
  obtain rfl : args = #[v0, v1] := by cases args; simp_all
  obtain ⟨rfl, rfl⟩ := trodVars_none hV
  obtain ⟨s0, s1, s2, s3, y0, y1, y2, y3, m, rfl, rfl, -, g0, g1, g2, g3⟩ := open_agg4 Try.underlying26 (by kernel_rfl) (by kernel_rfl) (hval 0 26 v0 rfl rfl) h0
  obtain ⟨tick, e0, -, -⟩ := DataW.trod_int Try.underlying22 g0
  obtain ⟨next, e3, -, -⟩ := DataW.trod_int Try.underlying3 g3
  obtain ⟨CA, nc, cc, cars, e1, hC, hoc, hbC⟩ := rowsOf (el := Car.enc) (ok := Car.ok) (k := 14) (by omega) cellsCar Try.underlying23 (fun n cs y h => car_of h) (fun _ => rfl) g1
  obtain ⟨SA, ns, cs, shots, e2, hS, hos, hbS⟩ := rowsOf (el := Shot.enc) (ok := Shot.ok) (k := 7) (by omega) cellsShot Try.underlying24 (fun n cs y h => shot_of h) (fun _ => rfl) g2
  obtain ⟨a0, a1, a2, z0, z1, z2, m2, rfl, rfl, -, k0, k1, k2⟩ := open_agg3 Try.underlying28 (by kernel_rfl) (by kernel_rfl) (hval 1 28 v1 rfl rfl) h1
  obtain ⟨player, f0, -, -⟩ := DataW.trod_int Try.underlying3 k0
  obtain ⟨radius, f1, -, -⟩ := DataW.trod_int Try.underlying3 k1
  obtain ⟨sh, f2, -, -⟩ := DataW.trod_int Try.underlying3 k2
  simp only [List.cons.injEq, and_true] at e0 e1 e2 e3 f0 f1 f2
  subst e0 e1 e2 e3 f0 f1 f2
  have hbk := bulk_bound hk
  simp only [List.append_nil, List.cons_append, List.nil_append, Rows.uptoBulkAll, Rows.uptoBulk] at hbk
  have hnc : nc ≤ 1073741824 := by
    rcases hbC with ⟨-, h⟩ | ⟨ds, sp, h, hl⟩
    · omega
    · rw [h] at hbk
      have := bulk_slice_le ds sp
      omega
  have hns : ns ≤ 1073741824 := by
    rcases hbS with ⟨-, h⟩ | ⟨ds, sp, h, hl⟩
    · omega
    · rw [h] at hbk
      have := bulk_slice_le ds sp
      omega
  refine (noMore_all W tick next player radius sh CA SA nc cc ns cs cars shots hC hS hnc hns hoc hos).mono fun e W' ⟨he, hb⟩ => ?_
  subst he
  exact ⟨_, rfl, law_post hW' (by kernel_rfl) (kids_rows (by kernel_rfl) (by kernel_rfl)) (by rw [Try.params3]; decide) rfl rfl rfl rfl Try.underlying4 (by kernel_rfl) hb⟩

theorem ownNone : ownKnob Try.prog.godebug = none := by kernel_rfl
set_option maxRecDepth 100000 in
theorem noMore_lifted (os : Os) (started : os.Started) (H : Type) (enc : TypeId × Value → H) (F : Stop.Interp) :
    ReturnsInHanded {} Try.checked os 3 .any ((Rows.OpenSpec.upto Rows.viewNoMoreSpec).pre6 enc Try.prog Try.f3 Rows.viewNoMoreUptoRow.domain false) (((Rows.OpenSpec.upto Rows.viewNoMoreSpec).at F).post enc Try.prog Try.f3 false true false false) := by
  refine returnsInHanded_of_cond (C := Try.checked) (s := Rows.OpenSpec.upto Rows.viewNoMoreSpec) (k := Rows.uptoSmall) rfl ownNone started (by kernel_rfl) Try.func3
    (OpenSpec.witness (enc := enc) (C := Try.checked) (s := Rows.OpenSpec.upto Rows.viewNoMoreSpec) (k := Rows.uptoSmall) rfl false ⟨#[], #[.agg #[.int .u64 0, .slice none 0 0, .slice none 0 0, .int .i64 0], .agg #[.int .i64 0, .int .i64 0, .int .i64 0]], []⟩ 8 (by kernel_rfl) (by kernel_rfl) (by kernel_rfl)
      (x := ([.agg [.lit (.int .u64 0), .nil, .nil, .lit (.int .i64 0)], .agg [.lit (.int .i64 0), .lit (.int .i64 0), .lit (.int .i64 0)]], [], [])) (by kernel_rfl) rfl (by kernel_rfl)) ?_
  intro W base args ds gs before hval hW _ hk _
  exact noMore_step H enc W base args ds gs before hval hW hk

theorem noMore_proved : Rows.ViewNoMoreUptoSaid :=
  OpenClaim.holds_of_cond 3 Try.f3 rfl rfl rfl rfl rfl rfl rfl ⟨rfl, rfl, rfl, rfl, rfl⟩ rfl rfl rfl rfl rfl (by kernel_rfl) Try.func3 (by kernel_rfl)
    (of_decide_eq_true (by kernel_rfl)) (by unfold Func.isWrapper; first | (rw [if_pos (by decide +kernel)]; kernel_rfl) | (rw [if_neg (by decide +kernel)]; exact ⟨rfl, rfl⟩))
    (fun os started H enc _ F => noMore_lifted os started H enc F)
end Go.Proofs.Ytnjgkgbgmjoceaa
