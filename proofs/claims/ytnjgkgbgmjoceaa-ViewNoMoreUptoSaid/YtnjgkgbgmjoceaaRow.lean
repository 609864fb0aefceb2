/-
  The rows' way: what a law's walk must give, whatever its arguments' types; slices of structs as lists.
-/
import Derived.Test.YtnjgkgbgmjoceaaRows
import Derived.Test.YtnjgkgbgmjoceaaBase
import Derived.Test.YtnjgkgbgmjoceaaSeenOrd
import Derived.Below
import Derived.ChangeSame
import Derived.ProofKit
import Derived.OpenShut
import Derived.JoinedCond
import Derived.ReadAgain
import Derived.Deep.Slices
import Derived.Deep.Fields
import Derived.Lib.SmallJoins
set_option linter.unusedSimpArgs false
set_option linter.unusedVariables false
namespace Go.Proofs.Ytnjgkgbgmjoceaa
open Go.RowKit Go.WideShapes Go.ChangeShapes Go.ChangeAt Go.Deep Go.Joins

section
variable {H : Type} {enc : TypeId × Value → H} {P : Program}
theorem post_of_below {f : Func} {s : ChangeSpec} {apart fresh handsOn again : Bool} {W W' : World} {args : Array Value} {v : Value} {ds gs : List (DataW H)} {before pa pv : List MemPlace}
    (hW : DataW.Whole enc P f.params.toList s.vars apart W args.toList ds gs before)
    (hres : ∀ (b : Nat) (sp : Nat → Bool) (hd : Bool), DataW.TrodAll enc P W' b sp hd f.resultTypes.toList (v.resultList f.resultTypes.size) (s.fn H (ds ++ gs)).results [])
    (hargs : ∀ sp : Nat → Bool, (∀ p ∈ before, sp p.block = true) → DataW.TrodAll enc P W' 0 sp true f.params.toList args.toList (s.fn H (ds ++ gs)).args pa)
    (hvars : ∀ sp : Nat → Bool, (∀ p ∈ before, sp p.block = true) → DataW.TrodVars enc P W' sp s.vars (s.fn H (ds ++ gs)).vars pv)
    (hps : before = pa ++ pv) (hb : Below W.heap.size W W')
    (hok : ∀ (j : Nat) (t : TypeId) (r : Value), f.resultTypes[j]? = some t → (v.resultList f.resultTypes.size)[j]? = some r → Value.okWide P W' .any 0 t r) :
    s.post enc P f apart fresh handsOn again W args v W' := by
  have hlt : ∀ p ∈ before, p.block < W.heap.size := fun p hp => hW.lt p hp
  have hold : ∀ p ∈ before, (fun b => decide (b < W.heap.size)) p.block = true := fun p hp => by simpa using hlt p hp
  refine ⟨ds, gs, before, [], pa, pv, hW, hres _ _ _, hargs _ hold, hvars _ hold, World.keptBut_mono (fun p hp => ⟨hp, ?_⟩) (hb.frame (· ∈ before)), fun _ => ?_⟩
  · rw [hps, List.mem_append] at hp
    exact Or.inr hp
  · obtain ⟨_, _, _, _, _, hz, hn⟩ := hW
    refine ⟨hok, _, _, ([] ++ pa) ++ pv, ⟨[] ++ pa, pv, trodAll_append (hargs _ (fun _ _ => rfl)) (hres _ _ _), hvars _ (fun _ _ => rfl), rfl, ?_, ?_⟩, ?_⟩
    · intro b off hp
      have hin : MemPlace.cell b off ∈ before := by rw [hps]; simpa using hp
      rw [hb.frozen (hlt _ hin)]
      exact hz b off hin
    · intro ha
      have := hn ha
      rw [hps] at this
      simpa using this
    · intro p hp _
      rw [hps]
      simpa using hp

theorem trodAll_carry {W W' : World} {base : Nat} {spare : Nat → Bool} {held : Bool} : ∀ {ts : List TypeId} {vs : List Value} {ds : List (DataW H)} {ps : List MemPlace},
    DataW.TrodAll enc P W base spare held ts vs ds ps → (∀ p ∈ ps, W.sameAt W' p) → DataW.TrodAll enc P W' base spare held ts vs ds ps
  | [], [], [], _, h, _ => h
  | _ :: _, _ :: _, _ :: _, _, ⟨p, q, ⟨n, hn⟩, h2, e⟩, hs => ⟨p, q, ⟨n, DataW.trod_carry n _ _ _ hn (fun x hx => hs x (by rw [e]; exact List.mem_append_left _ hx))⟩, trodAll_carry h2 (fun x hx => hs x (by rw [e]; exact List.mem_append_right _ hx)), e⟩

/-- A law's call behind which nothing old has turned, and that says true. -/
theorem law_post {f : Func} {s : ChangeSpec} {apart fresh handsOn again : Bool} {W W' : World} {args : Array Value} {ds gs : List (DataW H)} {before : List MemPlace} {T : TypeId}
    (hW : DataW.Whole enc P f.params.toList s.vars apart W args.toList ds gs before) (hl : (List.range P.types.size).all (fun t => match P.underlying t with | some (.slice e) => decide (0 < P.cellsOf e) | _ => true) = true)
    (K : Kids P (· < P.types.size)) (hts : ∀ t ∈ f.params.toList, t < P.types.size)
    (hv : s.vars = []) (h1 : (s.fn H (ds ++ gs)).results = [.lit (.bool true)]) (h2 : (s.fn H (ds ++ gs)).args = ds) (h3 : (s.fn H (ds ++ gs)).vars = []) (hT : P.underlying T = some .bool) (hr : f.resultTypes = #[T]) (hb : Below W.heap.size W W') :
    s.post enc P f apart fresh handsOn again W args (.bool true) W' := by
  have hW' := hW
  obtain ⟨p, q, hA, hV, hbq, hfz, hnd⟩ := hW
  rw [hv] at hV
  obtain ⟨rfl, rfl⟩ := trodVars_none hV
  have hbq' : before = p := by simpa using hbq
  subst hbq'
  have hlt : ∀ x ∈ before, x.block < W.heap.size := fun x hx => hW'.lt x hx
  refine post_of_below (pa := before) (pv := []) hW' (fun b sp hd => ?_) (fun sp hsp => ?_) (fun _ _ => ?_) (by simp) hb ?_
  · rw [h1, hr]
    exact trodAll_mk1 (shut_bool hT true)
  · rw [h2]
    exact DataW.TrodAll.respare K (slices_full_of P hl) hts (trodAll_carry hA (fun x hx => hb.same (hlt x hx))) hsp
  · rw [hv, h3]; rfl
  · exact ok_one hr rfl (okWide_bool_mk hT true)
end
theorem bulk_one_le {H : Type} (d : DataW H) : 1 ≤ Rows.uptoBulk d := by
  cases d with
  | lit l => cases l <;> simp [Rows.uptoBulk]
  | nil => simp [Rows.uptoBulk]
  | ptr d => simp [Rows.uptoBulk]
  | slice elems spare => simp [Rows.uptoBulk]
  | agg parts => simp [Rows.uptoBulk]
  | iface t d => simp [Rows.uptoBulk]
  | map entries => simp [Rows.uptoBulk]
  | held h => simp [Rows.uptoBulk]

/-- a part's bulk is at most the whole's -/
theorem bulk_part_le {H : Type} {d : DataW H} {l : List (DataW H)} (h : d ∈ l) : Rows.uptoBulk d ≤ Rows.uptoBulkAll l := by
  induction l with
  | nil => cases h
  | cons x r ih =>
    simp only [Rows.uptoBulkAll]
    cases List.mem_cons.1 h with
    | inl e => subst e; omega
    | inr e => have := ih e; omega

theorem bulk_append {H : Type} (l r : List (DataW H)) : Rows.uptoBulkAll (l ++ r) = Rows.uptoBulkAll l + Rows.uptoBulkAll r := by
  induction l with
  | nil => simp [Rows.uptoBulkAll]
  | cons x l ih => simp only [List.cons_append, Rows.uptoBulkAll, ih]; omega

/-- so many values at the most -/
theorem bulk_length_le {H : Type} (l : List (DataW H)) : l.length ≤ Rows.uptoBulkAll l := by
  induction l with
  | nil => simp [Rows.uptoBulkAll]
  | cons x r ih => have := bulk_one_le x; simp only [Rows.uptoBulkAll, List.length_cons]; omega

/-- a slice's places, and what they hold -/
theorem bulk_slice_le {H : Type} (elems spare : List (DataW H)) : elems.length + spare.length + 1 ≤ Rows.uptoBulk (.slice elems spare) := by
  have h1 := bulk_length_le elems
  have h2 := bulk_length_le spare
  simp only [Rows.uptoBulk]
  omega
theorem bulk_slice_elems {H : Type} (elems spare : List (DataW H)) : Rows.uptoBulkAll elems + 1 ≤ Rows.uptoBulk (.slice elems spare) := by
  simp only [Rows.uptoBulk]
  omega

/-- a string's letters -/
theorem bulk_string_eq {H : Type} (bytes : List UInt8) : Rows.uptoBulk (DataW.lit (H := H) (.string bytes)) = bytes.length + 1 := by
  simp [Rows.uptoBulk]

/-- THE BOUND, as the builder hands it over ('hk') -/
theorem bulk_bound {H : Type} {l : List (DataW H)} (hk : Rows.uptoSmall H l = true) : Rows.uptoBulkAll l ≤ 1048576 := by
  simpa [Rows.uptoSmall] using hk


section
variable {H : Type} {enc : TypeId × Value → H} {P : Program} {w : World} {base : Nat} {spare : Nat → Bool} {held : Bool} {n : Nat} {t : TypeId} {fs : Array Field} {cs : List Value} {x : DataW H × List MemPlace}
theorem fldV (hs : P.underlying t = some (.struct fs)) (h : DataW.trod enc P w base spare held n t cs = some x) (i : Nat) (f : Field) (hf : fs[i]? = some f) :
    ∃ n' y, DataW.trod enc P w base spare held n' f.type ((cs.drop f.offset).take (P.cellsOf f.type)) = some y := by
  obtain ⟨xs, n', rfl, _, _, hxl, hg⟩ := DataW.trod_struct hs h
  have h1 := hg i f hf
  have hil : i < xs.length := by rw [hxl]; exact (Array.getElem?_eq_some_iff.1 hf).1
  rw [List.getElem?_eq_getElem hil] at h1
  exact ⟨n', _, h1⟩
theorem drop_take_one {cs : List Value} {o : Nat} {v : Value} (h : (cs.drop o).take 1 = [v]) : cs[o]? = some v := by
  have := congrArg (·[0]?) h
  simpa [List.getElem?_take, List.getElem?_drop] using this
theorem fldI {k : IntKind} (hs : P.underlying t = some (.struct fs)) (h : DataW.trod enc P w base spare held n t cs = some x) (i : Nat) (f : Field) (hf : fs[i]? = some f) (hty : P.underlying f.type = some (.int k)) (hc : P.cellsOf f.type = 1) :
    ∃ a, cs[f.offset]? = some (.int k a) ∧ (Lit.int k a).wf = true := by
  obtain ⟨n', y, h1⟩ := fldV hs h i f hf
  obtain ⟨a, ha, _, hw⟩ := DataW.trod_int hty h1
  rw [hc] at ha
  exact ⟨a, drop_take_one ha, hw⟩
theorem fldS (hs : P.underlying t = some (.struct fs)) (h : DataW.trod enc P w base spare held n t cs = some x) (i : Nat) (f : Field) (hf : fs[i]? = some f) (hty : P.underlying f.type = some .string) (hc : P.cellsOf f.type = 1) :
    ∃ s : ByteArray, cs[f.offset]? = some (.string s) ∧ s.size ≤ maxLen := by
  obtain ⟨n', y, h1⟩ := fldV hs h i f hf
  obtain ⟨a, ha, _, hw⟩ := DataW.trod_string hty h1
  rw [hc] at ha
  exact ⟨a, drop_take_one ha, hw⟩
theorem rowsOf {α : Type} {el : α → List Value} {k : Nat} {ok : α → Prop} {e : TypeId} (hk : 0 < k) (hC : P.cellsOf e = k) (ht : P.underlying t = some (.slice e))
    (dec : ∀ (n : Nat) (cs : List Value) (y : DataW H × List MemPlace), DataW.trod enc P w base spare held n e cs = some y → ∃ a : α, cs = el a ∧ ok a) (hlen : ∀ a, (el a).length = k)
    (h : DataW.trod enc P w base spare held n t cs = some x) :
    ∃ (A : Option Addr) (len cap : Nat) (xs : List α), cs = [.slice A len cap] ∧ Reads w el k A len xs ∧ (∀ a ∈ xs, ok a) ∧ ((x.1 = .nil ∧ len = 0) ∨ ∃ ds sp, x.1 = .slice ds sp ∧ ds.length = len) := by
  rcases open_slice ht h with ⟨rfl, rfl⟩ | ⟨a, len, cap, m, n', D, Pl, rfl, hb, hl, hm, hmm, rfl, hi⟩
  · exact ⟨none, 0, 0, [], rfl, ⟨rfl, fun h => absurd h (by omega)⟩, by simp, .inl ⟨rfl, rfl⟩⟩
  · have hlm : len ≤ m := by rw [hmm]; split <;> omega
    have hx : ∀ i, i < len → ∃ b : α, ok b ∧ ∀ j v, (el b)[j]? = some v → w.cell? (a.add (i * k + j)) = some v := by
      intro i hil
      obtain ⟨cs', hc, ht'⟩ := hi i (by omega)
      rw [hC] at hc
      obtain ⟨b, rfl, hob⟩ := dec _ _ _ ht'
      obtain ⟨_, hcl, hat⟩ := World.cells?_some hc
      refine ⟨b, hob, fun j v hv => ?_⟩
      have hj : j < k := by rw [← hcl]; exact (List.getElem?_eq_some_iff.1 hv).1
      rw [← Go.Deep.add_add, hat j hj, hv]
    by_cases h0 : len = 0
    · subst h0
      exact ⟨some a, 0, cap, [], rfl, ⟨rfl, fun h => absurd h (by omega)⟩, by simp, .inr ⟨_, _, rfl, by simp⟩⟩
    · obtain ⟨b0, -, hb0⟩ := hx 0 (by omega)
      have hv0 : (el b0)[0]? = some ((el b0)[0]'(by rw [hlen]; exact hk)) := List.getElem?_eq_getElem (by rw [hlen]; exact hk)
      have hc0 := hb0 0 _ hv0
      obtain ⟨b, off, spot⟩ := a
      have hspot : spot = none := by simpa [Addr.add] using World.cell?_spot hc0
      subst hspot
      have hadd : ∀ j, (⟨b, off, none⟩ : Addr).add j = ⟨b, off + j, none⟩ := fun j => by unfold Addr.add; split <;> simp_all
      refine ⟨some ⟨b, off, none⟩, len, cap, (List.range len).attach.map fun i => (hx i.1 (List.mem_range.1 i.2)).choose, rfl, ⟨by simp, fun _ => ⟨b, off, rfl, ?_, ?_⟩⟩, ?_, .inr ⟨_, _, rfl, by simp⟩⟩
      · rw [hadd] at hc0
        exact World.block_lt_of_cell? w _ hc0
      · intro i y j v hy hv
        have hil : i < len := by have := (List.getElem?_eq_some_iff.1 hy).1; simpa using this
        have e1 : y = (hx i hil).choose := by
          rw [List.getElem?_map, List.getElem?_eq_getElem (by simpa using hil)] at hy
          simpa using (Option.some.inj hy).symm
        have h2 := (hx i hil).choose_spec.2 j v (by rw [← e1]; exact hv)
        rw [hadd] at h2
        rw [Nat.add_assoc]
        exact h2
      · intro y hy
        obtain ⟨i, hi', rfl⟩ := List.mem_map.1 hy
        exact (hx i.1 (List.mem_range.1 i.2)).choose_spec.1
end

theorem list14 {cs : List Value} (h : cs.length = 14) : ∃ c0 c1 c2 c3 c4 c5 c6 c7 c8 c9 c10 c11 c12 c13, cs = [c0, c1, c2, c3, c4, c5, c6, c7, c8, c9, c10, c11, c12, c13] := by
  match cs, h with
  | [c0, c1, c2, c3, c4, c5, c6, c7, c8, c9, c10, c11, c12, c13], _ => exact ⟨_, _, _, _, _, _, _, _, _, _, _, _, _, _, rfl⟩
theorem list7 {cs : List Value} (h : cs.length = 7) : ∃ c0 c1 c2 c3 c4 c5 c6, cs = [c0, c1, c2, c3, c4, c5, c6] := by
  match cs, h with
  | [c0, c1, c2, c3, c4, c5, c6], _ => exact ⟨_, _, _, _, _, _, _, rfl⟩
theorem cellsInt : Try.prog.cellsOf 3 = 1 := by kernel_rfl
theorem cellsI64 : Try.prog.cellsOf 2 = 1 := by kernel_rfl
theorem cellsStr : Try.prog.cellsOf 9 = 1 := by kernel_rfl
theorem cellsVec : Try.prog.cellsOf 31 = 2 := by kernel_rfl
theorem cellsCar : Try.prog.cellsOf 33 = 14 := by kernel_rfl
theorem cellsShot : Try.prog.cellsOf 45 = 7 := by kernel_rfl
section
variable {H : Type} {enc : TypeId × Value → H} {w : World} {base : Nat} {spare : Nat → Bool} {held : Bool} {n : Nat} {cs : List Value} {x : DataW H × List MemPlace}
theorem fldVec {t : TypeId} {fs : Array Field} (hs : Try.prog.underlying t = some (.struct fs)) (h : DataW.trod enc Try.prog w base spare held n t cs = some x) (i : Nat) (f : Field) (hf : fs[i]? = some f) (hty : f.type = 31) :
    ∃ a b, cs[f.offset]? = some (.int .i64 a) ∧ cs[f.offset + 1]? = some (.int .i64 b) ∧ I64 a ∧ I64 b := by
  obtain ⟨n', y, h1⟩ := fldV hs h i f hf
  rw [hty, cellsVec] at h1
  obtain ⟨a, ha, wa⟩ := fldI Try.underlying31 h1 0 _ rfl Try.underlying2 cellsI64
  obtain ⟨b, hb, wb⟩ := fldI Try.underlying31 h1 1 _ rfl Try.underlying2 cellsI64
  refine ⟨a, b, ?_, ?_, I64.of_wf wa, I64.of_wf wb⟩
  · simpa [List.getElem?_take, List.getElem?_drop] using ha
  · simpa [List.getElem?_take, List.getElem?_drop] using hb
theorem car_of (h : DataW.trod enc Try.prog w base spare held n 33 cs = some x) : ∃ c : Car, cs = c.enc ∧ c.ok := by
  obtain ⟨_, _, _, _, hl, _, _⟩ := DataW.trod_struct Try.underlying33 h
  rw [cellsCar] at hl
  obtain ⟨a0, h0, k0⟩ := fldI Try.underlying33 h 0 _ rfl Try.underlying3 cellsInt
  obtain ⟨a1, h1, -⟩ := fldS Try.underlying33 h 1 _ rfl Try.underlying9 cellsStr
  obtain ⟨a2, a3, h2, h3, k2, k3⟩ := fldVec Try.underlying33 h 2 _ rfl rfl
  obtain ⟨a4, a5, h4, h5, -, -⟩ := fldVec Try.underlying33 h 3 _ rfl rfl
  obtain ⟨a6, h6, k6⟩ := fldI Try.underlying33 h 4 _ rfl Try.underlying3 cellsInt
  obtain ⟨a7, h7, -⟩ := fldI Try.underlying33 h 5 _ rfl Try.underlying3 cellsInt
  obtain ⟨a8, h8, -⟩ := fldI Try.underlying33 h 6 _ rfl Try.underlying3 cellsInt
  obtain ⟨a9, h9, -⟩ := fldI Try.underlying33 h 7 _ rfl Try.underlying3 cellsInt
  obtain ⟨a10, h10, -⟩ := fldI Try.underlying33 h 8 _ rfl Try.underlying3 cellsInt
  obtain ⟨a11, h11, -⟩ := fldI Try.underlying33 h 9 _ rfl Try.underlying3 cellsInt
  obtain ⟨a12, h12, -⟩ := fldI Try.underlying33 h 10 _ rfl Try.underlying3 cellsInt
  obtain ⟨a13, h13, -⟩ := fldI Try.underlying33 h 11 _ rfl Try.underlying3 cellsInt
  refine ⟨⟨a0, a1, a2, a3, a4, a5, a6, a7, a8, a9, a10, a11, a12, a13⟩, ?_, I64.of_wf k0, k2, k3, I64.of_wf k6⟩
  obtain ⟨c0, c1, c2, c3, c4, c5, c6, c7, c8, c9, c10, c11, c12, c13, rfl⟩ := list14 hl
  obtain rfl : c0 = .int .i64 a0 := Option.some.inj h0
  obtain rfl : c1 = .string a1 := Option.some.inj h1
  obtain rfl : c2 = .int .i64 a2 := Option.some.inj h2
  obtain rfl : c3 = .int .i64 a3 := Option.some.inj h3
  obtain rfl : c4 = .int .i64 a4 := Option.some.inj h4
  obtain rfl : c5 = .int .i64 a5 := Option.some.inj h5
  obtain rfl : c6 = .int .i64 a6 := Option.some.inj h6
  obtain rfl : c7 = .int .i64 a7 := Option.some.inj h7
  obtain rfl : c8 = .int .i64 a8 := Option.some.inj h8
  obtain rfl : c9 = .int .i64 a9 := Option.some.inj h9
  obtain rfl : c10 = .int .i64 a10 := Option.some.inj h10
  obtain rfl : c11 = .int .i64 a11 := Option.some.inj h11
  obtain rfl : c12 = .int .i64 a12 := Option.some.inj h12
  obtain rfl : c13 = .int .i64 a13 := Option.some.inj h13
  rfl
theorem shot_of (h : DataW.trod enc Try.prog w base spare held n 45 cs = some x) : ∃ c : Shot, cs = c.enc ∧ c.ok := by
  obtain ⟨_, _, _, _, hl, _, _⟩ := DataW.trod_struct Try.underlying45 h
  rw [cellsShot] at hl
  obtain ⟨a0, h0, k0⟩ := fldI Try.underlying45 h 0 _ rfl Try.underlying3 cellsInt
  obtain ⟨a1, h1, -⟩ := fldI Try.underlying45 h 1 _ rfl Try.underlying3 cellsInt
  obtain ⟨a2, a3, h2, h3, k2, k3⟩ := fldVec Try.underlying45 h 2 _ rfl rfl
  obtain ⟨a4, a5, h4, h5, -, -⟩ := fldVec Try.underlying45 h 3 _ rfl rfl
  obtain ⟨a6, h6, -⟩ := fldI Try.underlying45 h 4 _ rfl Try.underlying3 cellsInt
  refine ⟨⟨a0, a1, a2, a3, a4, a5, a6⟩, ?_, I64.of_wf k0, k2, k3⟩
  obtain ⟨c0, c1, c2, c3, c4, c5, c6, rfl⟩ := list7 hl
  obtain rfl : c0 = .int .i64 a0 := Option.some.inj h0
  obtain rfl : c1 = .int .i64 a1 := Option.some.inj h1
  obtain rfl : c2 = .int .i64 a2 := Option.some.inj h2
  obtain rfl : c3 = .int .i64 a3 := Option.some.inj h3
  obtain rfl : c4 = .int .i64 a4 := Option.some.inj h4
  obtain rfl : c5 = .int .i64 a5 := Option.some.inj h5
  obtain rfl : c6 = .int .i64 a6 := Option.some.inj h6
  rfl
end
end Go.Proofs.Ytnjgkgbgmjoceaa
