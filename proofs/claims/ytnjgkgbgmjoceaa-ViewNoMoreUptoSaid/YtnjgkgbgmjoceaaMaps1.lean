/-
  Maps by their entries: a map's block as a list of entries with typed keys; what a look-up, a store, a delete, an entry's append do to it.
-/
import Derived.Test.YtnjgkgbgmjoceaaBase
import Derived.Laws.StructEq
import Derived.Maps.RangeRun
import Derived.Carry
set_option linter.unusedSimpArgs false
set_option linter.unusedVariables false
namespace Go.Proofs.Ytnjgkgbgmjoceaa
open Go.RowKit Go.ChangeMaps

/-- An entry of a map: a key, a value, its stamp. -/
structure Ent (κ : Type) where
  key : κ
  val : Value
  born : Nat
def Ent.obj {κ : Type} (enc : κ → Value) (e : Ent κ) : MapEntry := { key := enc e.key, val := e.val, born := e.born }
def mapObj {κ : Type} (enc : κ → Value) (l : List (Ent κ)) (clk : Nat) : Obj := .map (l.map (Ent.obj enc)).toArray clk
/-- The first entry at a key. -/
def findE {κ : Type} [DecidableEq κ] (k : κ) : List (Ent κ) → Nat → Option (Nat × Value)
  | [], _ => none
  | e :: r, i => if k = e.key then some (i, e.val) else findE k r (i + 1)
/-- The keys of a type. -/
structure KeysOk (P : Program) (kt : TypeId) {κ : Type} [DecidableEq κ] (enc : κ → Value) (ok : κ → Prop) : Prop where
  check : ∀ (b : Bool) (k : κ) (w : World), (Instr.checkKey b 10000 kt (enc k)).run P w = .ok () w
  find : ∀ (k : κ) (l : List (Ent κ)) (w : World), (Instr.findKey kt (enc k) (l.map (Ent.obj enc))).run P w = .ok (findE k l 0) w
  stays : ∀ (k : κ) (w : World), (Instr.keyThatStays (enc k) (enc k)).run P w = .ok (enc k) w

section
variable {κ : Type} [DecidableEq κ]
/-- What stands at a key. -/
def atE (k : κ) : List (Ent κ) → Option Value
  | [] => none
  | e :: r => if k = e.key then some e.val else atE k r
/-- A store. -/
def putE (k : κ) (v : Value) (clk : Nat) : List (Ent κ) → List (Ent κ)
  | [] => [⟨k, v, clk⟩]
  | e :: r => if k = e.key then ⟨e.key, v, e.born⟩ :: r else e :: putE k v clk r
def clkE (k : κ) (clk : Nat) (l : List (Ent κ)) : Nat := if (atE k l).isSome then clk else clk + 1
/-- A delete. -/
def delE (k : κ) : List (Ent κ) → List (Ent κ)
  | [] => []
  | e :: r => if k = e.key then r else e :: delE k r
theorem findE_at (k : κ) (l : List (Ent κ)) (i : Nat) : (findE k l i).map (·.2) = atE k l := by
  induction l generalizing i with
  | nil => rfl
  | cons e r ih => unfold findE atE; split <;> simp [ih]
theorem findE_none (k : κ) (l : List (Ent κ)) (i : Nat) (h : atE k l = none) : findE k l i = none := by
  have := findE_at k l i; rw [h] at this; simpa using this
theorem findE_some (k : κ) (l : List (Ent κ)) (i : Nat) (v : Value) (h : atE k l = some v) : ∃ j, findE k l i = some (i + j, v) ∧ ∃ e, l[j]? = some e ∧ e.key = k ∧ e.val = v := by
  induction l generalizing i with
  | nil => simp [atE] at h
  | cons e r ih =>
    unfold atE at h
    unfold findE
    by_cases hk : k = e.key
    · rw [if_pos hk] at h ⊢
      exact ⟨0, by simpa using h, e, rfl, hk.symm, by simpa using h⟩
    · rw [if_neg hk] at h ⊢
      obtain ⟨j, h1, e', h2, h3, h4⟩ := ih (i + 1) h
      exact ⟨j + 1, by rw [h1]; simp; omega, e', by simpa using h2, h3, h4⟩
end

/-- The world with another object at a block. -/
theorem sb_same {w : World} {b : Nat} (hb : b < w.heap.size) (o : Obj) : (setBlock w b o).heap[b]? = some o := by
  simp [setBlock, hb]
theorem sb_other {w : World} {b i : Nat} (o : Obj) (h : i ≠ b) : (setBlock w b o).heap[i]? = w.heap[i]? := by
  simp only [setBlock]
  rw [Array.getElem?_setIfInBounds, if_neg (by omega)]
theorem sb_size {w : World} {b : Nat} (o : Obj) : (setBlock w b o).heap.size = w.heap.size := by simp [setBlock]
def Obj.plain : Obj → Bool
  | .cells _ _ _ => true
  | _ => false
theorem sb_cell {w : World} {b : Nat} {o o' : Obj} (hb : w.heap[b]? = some o) (ho : Obj.plain o = false) (ho' : Obj.plain o' = false) (a : Addr) : (setBlock w b o').cell? a = w.cell? a := by
  by_cases h : a.block = b
  · have h1 := sb_same (Array.getElem?_eq_some_iff.1 hb).1 o'
    unfold World.cell?
    rw [h, h1, hb]
    cases o <;> cases o' <;> simp_all [Obj.plain]
  · unfold World.cell?
    rw [sb_other o' h]
theorem sb_frozen {w : World} {b : Nat} {o o' : Obj} (hb : w.heap[b]? = some o) (ho : Obj.plain o = false) (ho' : Obj.plain o' = false) (a : Addr) : (setBlock w b o').frozen? a = w.frozen? a := by
  by_cases h : a.block = b
  · have h1 := sb_same (Array.getElem?_eq_some_iff.1 hb).1 o'
    unfold World.frozen?
    rw [h, h1, hb]
    cases o <;> cases o' <;> simp_all [Obj.plain]
  · unfold World.frozen?
    rw [sb_other o' h]
theorem sb_grown (w : World) (b : Nat) (o' : Obj) : w.grownBy (setBlock w b o') (some b) :=
  ⟨rfl, rfl, rfl, by simp [setBlock], fun i _ hi => sb_other _ (fun e => hi (by rw [e]))⟩

section
variable {P : Program} {kt et : TypeId} {κ : Type} [DecidableEq κ] {enc : κ → Value} {ok : κ → Prop}

theorem run_lookup_E (K : KeysOk P kt enc ok) {w : World} {t b clk : Nat} {l : List (Ent κ)} (ht : P.underlying t = some (.map kt et)) {z : Value} (hz : (zeroValue et).run P w = .ok z w) (hb : w.heap[b]? = some (mapObj enc l clk)) (k : κ) (c : Bool) :
    (Instr.lookup t (.map (some b)) (enc k) c).run P w = .ok (if c then .tuple #[(atE k l).getD z, .bool (atE k l).isSome] else (atE k l).getD z) w := by
  have hb' : (getObj b).run P w = .ok (.map (l.map (Ent.obj enc)).toArray clk) w := MapKept.run_getObj_map hb
  cases h : atE k l with
  | none =>
    have h1 := K.find k l w
    rw [findE_none k l 0 h] at h1
    simp only [Instr.lookup, Sem.run_bind, run_underlying ht, hb', Result.andThen_ok, Sem.run_pure, K.check, h1, hz]
    cases c <;> simp
  | some v =>
    have h1 := K.find k l w
    obtain ⟨j, h2, _⟩ := findE_some k l 0 v h
    rw [h2] at h1
    simp only [Instr.lookup, Sem.run_bind, run_underlying ht, hb', Result.andThen_ok, Sem.run_pure, K.check, h1]
    cases c <;> simp

theorem modify_E {κ : Type} (enc : κ → Value) (l : List (Ent κ)) (j : Nat) (e : Ent κ) (he : l[j]? = some e) (v : Value) :
    ((l.map (Ent.obj enc)).toArray.modify j fun x => { x with key := enc e.key, val := v }) = ((l.set j ⟨e.key, v, e.born⟩).map (Ent.obj enc)).toArray := by
  refine Array.ext_getElem? fun i => ?_
  rw [Array.getElem?_modify]
  by_cases h : j = i
  · subst h
    have hl := (List.getElem?_eq_some_iff.1 he).1
    rw [if_pos rfl]
    have e1 : l[j] = e := by rw [List.getElem?_eq_getElem hl] at he; exact Option.some.inj he
    simp [he, Ent.obj, List.getElem?_set, hl, e1]
  · rw [if_neg h]
    simp [List.getElem?_set, h]
theorem putE_set (k : κ) (v : Value) (clk : Nat) (l : List (Ent κ)) (i j : Nat) (u : Value) (h : findE k l i = some (i + j, u)) : ∃ e, l[j]? = some e ∧ e.key = k ∧ putE k v clk l = l.set j ⟨e.key, v, e.born⟩ := by
  induction l generalizing i j with
  | nil => simp [findE] at h
  | cons e r ih =>
    unfold findE at h
    by_cases hk : k = e.key
    · rw [if_pos hk] at h
      have hj : j = 0 := by simp at h; omega
      subst hj
      refine ⟨e, rfl, hk.symm, ?_⟩
      unfold putE
      rw [if_pos hk]
      rfl
    · rw [if_neg hk] at h
      cases j with
      | zero =>
        obtain ⟨j', h1, -⟩ := findE_some k r (i + 1) u (by rw [← findE_at k r (i + 1), h]; rfl)
        rw [h] at h1
        simp at h1
        omega
      | succ j =>
        obtain ⟨e', h1, h2, h3⟩ := ih (i + 1) j (by rw [h]; simp; omega)
        refine ⟨e', by simpa using h1, h2, ?_⟩
        unfold putE
        rw [if_neg hk, h3]
        rfl
theorem putE_none (k : κ) (v : Value) (clk : Nat) (l : List (Ent κ)) (h : atE k l = none) : putE k v clk l = l ++ [⟨k, v, clk⟩] := by
  induction l with
  | nil => rfl
  | cons e r ih =>
    unfold atE at h
    unfold putE
    by_cases hk : k = e.key
    · rw [if_pos hk] at h; cases h
    · rw [if_neg hk] at h ⊢
      rw [ih h]
      rfl

/-- 'm[k] = v'. -/
theorem run_update_E (K : KeysOk P kt enc ok) {w : World} {t b clk : Nat} {l : List (Ent κ)} (ht : P.underlying t = some (.map kt et)) (hb : w.heap[b]? = some (mapObj enc l clk)) (k : κ) (v : Value) :
    (Instr.mapUpdate t (.map (some b)) (enc k) v).run P w = .ok () (setBlock w b (mapObj enc (putE k v clk l) (clkE k clk l))) := by
  have hb' : (getObj b).run P w = .ok (.map (l.map (Ent.obj enc)).toArray clk) w := MapKept.run_getObj_map hb
  have hs := fun o => MapKept.run_setObj_map (P := P) o hb
  have h1 := K.find k l w
  cases h : atE k l with
  | none =>
    rw [findE_none k l 0 h] at h1
    simp only [Instr.mapUpdate, Sem.run_bind, run_underlying ht, hb', Result.andThen_ok, Sem.run_pure, K.check, h1, hs]
    simp only [setBlock, mapObj, putE_none k v clk l h, clkE, h]
    simp [Ent.obj]
  | some u =>
    obtain ⟨j, h2, _⟩ := findE_some k l 0 u h
    have h2' : findE k l 0 = some (0 + j, u) := h2
    obtain ⟨e, h3, h4, h5⟩ := putE_set k v clk l 0 j u h2'
    rw [h2] at h1
    have hst := K.stays k w
    simp only [Instr.mapUpdate, Sem.run_bind, run_underlying ht, hb', Result.andThen_ok, Sem.run_pure, K.check, h1, hs]
    simp only [List.getElem?_toArray, List.getElem?_map, Nat.zero_add, h3, Option.map_some, Option.getD_some, Ent.obj, h4, hst, Result.andThen_ok]
    simp only [setBlock, mapObj, h5, clkE, h]
    have hm := modify_E enc l j e h3 v
    rw [h4] at hm
    simp only [hs]
    rw [hm, h4]
    simp

/-- 'delete(m, k)'. -/
theorem delE_erase (k : κ) (l : List (Ent κ)) (i j : Nat) (u : Value) (h : findE k l i = some (i + j, u)) : delE k l = l.eraseIdx j := by
  induction l generalizing i j with
  | nil => simp [findE] at h
  | cons e r ih =>
    unfold findE at h
    by_cases hk : k = e.key
    · rw [if_pos hk] at h
      have hj : j = 0 := by simp at h; omega
      subst hj
      unfold delE
      rw [if_pos hk]
      rfl
    · rw [if_neg hk] at h
      cases j with
      | zero =>
        obtain ⟨j', h1, -⟩ := findE_some k r (i + 1) u (by rw [← findE_at k r (i + 1), h]; rfl)
        rw [h] at h1
        simp at h1
        omega
      | succ j =>
        unfold delE
        rw [if_neg hk, ih (i + 1) j (by rw [h]; simp; omega)]
        rfl
theorem delE_none (k : κ) (l : List (Ent κ)) (h : atE k l = none) : delE k l = l := by
  induction l with
  | nil => rfl
  | cons e r ih =>
    unfold atE at h
    unfold delE
    by_cases hk : k = e.key
    · rw [if_pos hk] at h; cases h
    · rw [if_neg hk] at h ⊢
      rw [ih h]
theorem run_delete_E (K : KeysOk P kt enc ok) {w : World} {t ty b clk : Nat} {l : List (Ent κ)} (ht : P.underlying t = some (.map kt et)) (hb : w.heap[b]? = some (mapObj enc l clk)) (k : κ) :
    (Builtin.delete_ #[t, kt] ty #[.map (some b), enc k]).run P w = .ok (.tuple #[]) (setBlock w b (mapObj enc (delE k l) clk)) := by
  have hb' : (getObj b).run P w = .ok (.map (l.map (Ent.obj enc)).toArray clk) w := MapKept.run_getObj_map hb
  have hs := fun o => MapKept.run_setObj_map (P := P) o hb
  have h1 := K.find k l w
  cases h : atE k l with
  | none =>
    rw [findE_none k l 0 h] at h1
    simp only [Builtin.delete_, Sem.run_bind, run_underlying ht, hb', Result.andThen_ok, Sem.run_pure, K.check, List.getElem?_toArray, List.getElem?_cons_zero, List.getElem?_cons_succ, h1, hs]
    simp [setBlock, mapObj, delE_none k l h]
  | some u =>
    obtain ⟨j, h2, _⟩ := findE_some k l 0 u h
    rw [h2] at h1
    simp only [Builtin.delete_, Sem.run_bind, run_underlying ht, hb', Result.andThen_ok, Sem.run_pure, K.check, List.getElem?_toArray, List.getElem?_cons_zero, List.getElem?_cons_succ, h1, hs]
    simp only [setBlock, mapObj, delE_erase k l 0 j u h2, Nat.zero_add]
    simp [ChangeMaps.map_eraseIdx]

/-- 'm[k] op= ..': the entry's address and its store: as one store. -/
def stampE (k : κ) (clk : Nat) : List (Ent κ) → Nat
  | [] => clk
  | e :: r => if k = e.key then e.born else stampE k clk r
theorem stampE_find (k : κ) (clk : Nat) (l : List (Ent κ)) (i j : Nat) (u : Value) (h : findE k l i = some (i + j, u)) : ∃ e, l[j]? = some e ∧ stampE k clk l = e.born ∧ e.key = k ∧ e.val = u := by
  induction l generalizing i j with
  | nil => simp [findE] at h
  | cons a r ih =>
    unfold findE at h
    unfold stampE
    by_cases hk : k = a.key
    · rw [if_pos hk] at h ⊢
      have hj : j = 0 := by simp at h; omega
      subst hj
      exact ⟨a, rfl, rfl, hk.symm, by simpa using h⟩
    · rw [if_neg hk] at h ⊢
      cases j with
      | zero =>
        obtain ⟨j', k1, -⟩ := findE_some k r (i + 1) u (by rw [← findE_at k r (i + 1), h]; rfl)
        rw [h] at k1
        simp at k1
        omega
      | succ j =>
        obtain ⟨e, h1, h2⟩ := ih (i + 1) j (by rw [h]; simp; omega)
        exact ⟨e, by simpa using h1, h2⟩
theorem run_entry_E (K : KeysOk P kt enc ok) {w : World} {t b clk : Nat} {l : List (Ent κ)} (ht : P.underlying t = some (.map kt et)) {z : Value} (hz : ∀ w, (zeroValue et).run P w = .ok z w) (hb : w.heap[b]? = some (mapObj enc l clk)) (k : κ) :
    (Instr.mapEntry t (.map (some b)) (enc k)).run P w = .ok (.tuple #[(atE k l).getD z, goInt (stampE k clk l)]) (setBlock w b (mapObj enc (putE k ((atE k l).getD z) clk l) (clkE k clk l))) := by
  have hb' : (getObj b).run P w = .ok (.map (l.map (Ent.obj enc)).toArray clk) w := MapKept.run_getObj_map hb
  have hs := fun o => MapKept.run_setObj_map (P := P) o hb
  have h1 := K.find k l w
  cases h : atE k l with
  | none =>
    have hst : stampE k clk l = clk := by
      clear hb hb' h1 hs
      induction l with
      | nil => rfl
      | cons e r ih =>
        unfold atE at h
        unfold stampE
        by_cases hk : k = e.key
        · rw [if_pos hk] at h; cases h
        · rw [if_neg hk] at h ⊢
          exact ih h
    rw [findE_none k l 0 h] at h1
    simp only [Instr.mapEntry, Sem.run_bind, run_underlying ht, hb', Result.andThen_ok, Sem.run_pure, K.check, h1, hs, hz]
    simp only [setBlock, mapObj, putE_none k _ clk l h, clkE, h, hst]
    simp [Ent.obj]
  | some u =>
    obtain ⟨j, h2, _⟩ := findE_some k l 0 u h
    have h2' : findE k l 0 = some (0 + j, u) := h2
    obtain ⟨e, h3, h4, h5⟩ := putE_set k u clk l 0 j u h2'
    obtain ⟨e', g1, hst, g3, hu⟩ := stampE_find k clk l 0 j u h2'
    rw [h3] at g1
    cases g1
    rw [h2] at h1
    have hst2 := K.stays k w
    simp only [Instr.mapEntry, Sem.run_bind, run_underlying ht, hb', Result.andThen_ok, Sem.run_pure, K.check, h1, hs]
    simp only [List.getElem?_toArray, List.getElem?_map, Nat.zero_add, h3, Option.map_some, Option.getD_some, Ent.obj, h4, hst2, Result.andThen_ok]
    simp only [hs, Result.andThen_ok, hst]
    have hm := modify_E enc l j e h3 e.val
    simp only [setBlock, mapObj, clkE, h, Option.getD_some, h5, Option.isSome_some, if_true]
    have hid : ((l.map (Ent.obj enc)).toArray.modify j fun x => { x with key := enc e.key }) = ((l.set j ⟨e.key, u, e.born⟩).map (Ent.obj enc)).toArray := by
      rw [← hu, ← hm]
      refine Array.ext_getElem? fun i => ?_
      rw [Array.getElem?_modify, Array.getElem?_modify]
      by_cases hi : j = i
      · subst hi
        rw [if_pos rfl, if_pos rfl]
        simp [h3, Ent.obj]
      · rw [if_neg hi, if_neg hi]
    rw [h4] at hid ⊢
    rw [hid]

/-- The stamps of the entries: each its own, all below the clock. -/
def Stamped (l : List (Ent κ)) (clk : Nat) : Prop := (l.map (·.born)).Nodup ∧ ∀ e ∈ l, e.born < clk
theorem Stamped.nil {κ : Type} : Stamped ([] : List (Ent κ)) 0 := ⟨.nil, fun _ h => by cases h⟩
theorem mem_putE {k : κ} {v : Value} {clk : Nat} {l : List (Ent κ)} {x : Ent κ} (h : x ∈ putE k v clk l) : (x.key = k ∧ x.val = v ∧ x.born = stampE k clk l) ∨ x ∈ l := by
  induction l with
  | nil => simp [putE] at h; subst h; exact .inl ⟨rfl, rfl, rfl⟩
  | cons e r ih =>
    unfold putE at h
    unfold stampE
    by_cases hk : k = e.key
    · rw [if_pos hk] at h ⊢
      rcases List.mem_cons.1 h with rfl | h
      · exact .inl ⟨hk.symm, rfl, rfl⟩
      · exact .inr (List.mem_cons_of_mem _ h)
    · rw [if_neg hk] at h ⊢
      rcases List.mem_cons.1 h with rfl | h
      · exact .inr (List.mem_cons_self ..)
      · rcases ih h with h | h
        · exact .inl h
        · exact .inr (List.mem_cons_of_mem _ h)
theorem Stamped.put {k : κ} {v : Value} {clk : Nat} {l : List (Ent κ)} (h : Stamped l clk) : Stamped (putE k v clk l) (clkE k clk l) := by
  cases hk : atE k l with
  | none =>
    rw [putE_none k v clk l hk]
    unfold clkE
    rw [hk]
    refine ⟨?_, ?_⟩
    · rw [List.map_append, List.nodup_append]
      refine ⟨h.1, by simp, fun a ha b hb => ?_⟩
      obtain ⟨e, he, rfl⟩ := List.mem_map.1 ha
      simp at hb
      have := h.2 e he
      omega
    · intro e he
      rcases List.mem_append.1 he with he | he
      · have := h.2 e he; simp; omega
      · simp at he; subst he; simp
  | some u =>
    obtain ⟨j, h2, _⟩ := findE_some k l 0 u hk
    obtain ⟨e, h3, h4, h5⟩ := putE_set k v clk l 0 j u h2
    have e1 : (putE k v clk l).map (·.born) = l.map (·.born) := by
      rw [h5, List.map_set]
      refine List.ext_getElem? fun i => ?_
      rw [List.getElem?_set]
      have hl := (List.getElem?_eq_some_iff.1 h3).1
      by_cases hi : j = i
      · subst hi
        have e1 : l[j] = e := by rw [List.getElem?_eq_getElem hl] at h3; exact Option.some.inj h3
        simp [hl, e1]
      · rw [if_neg hi]
    unfold clkE
    rw [hk]
    refine ⟨by rw [e1]; exact h.1, fun x hx => ?_⟩
    have : x.born ∈ (putE k v clk l).map (·.born) := List.mem_map_of_mem hx
    rw [e1] at this
    obtain ⟨y, hy, hxy⟩ := List.mem_map.1 this
    have := h.2 y hy
    simp
    omega
theorem putE_putE (k : κ) (u v : Value) (clk clk' : Nat) (l : List (Ent κ)) : putE k v clk' (putE k u clk l) = putE k v clk l := by
  induction l with
  | nil => simp [putE]
  | cons e r ih =>
    by_cases hk : k = e.key
    · simp [putE, hk]
    · simp [putE, hk, ih]
theorem atE_putE_same (k : κ) (v : Value) (clk : Nat) (l : List (Ent κ)) : atE k (putE k v clk l) = some v := by
  induction l with
  | nil => simp [putE, atE]
  | cons e r ih =>
    by_cases hk : k = e.key
    · simp [putE, atE, hk]
    · simp [putE, atE, hk, ih]
theorem atE_putE_other {k k' : κ} (hne : k' ≠ k) (v : Value) (clk : Nat) (l : List (Ent κ)) : atE k' (putE k v clk l) = atE k' l := by
  induction l with
  | nil => simp [putE, atE, hne]
  | cons e r ih =>
    by_cases hk : k = e.key
    · have hk' : k' ≠ e.key := by rw [← hk]; exact hne
      simp [putE, atE, hk, hk']
    · by_cases h2 : k' = e.key
      · simp [putE, atE, hk, h2]
      · simp [putE, atE, hk, h2, ih]
theorem stampE_put (k : κ) (u : Value) (clk clk' : Nat) (l : List (Ent κ)) : stampE k clk' (putE k u clk l) = stampE k clk l := by
  induction l with
  | nil => simp [putE, stampE]
  | cons e r ih =>
    by_cases hk : k = e.key
    · simp [putE, stampE, hk]
    · simp [putE, stampE, hk, ih]
/-- The store at an entry that is there. -/
theorem run_entryStore_E {w : World} {t : TypeId} {b clk : Nat} {l : List (Ent κ)} (hb : w.heap[b]? = some (mapObj enc l clk)) (hst : Stamped l clk) (k : κ) (hk : (atE k l).isSome = true) (v : Value) (c0 : Nat) :
    (Instr.entryStore t (.map (some b)) (goInt (stampE k c0 l)) v).run P w = .ok () (setBlock w b (mapObj enc (putE k v clk l) clk)) := by
  have hb' : (getObj b).run P w = .ok (.map (l.map (Ent.obj enc)).toArray clk) w := MapKept.run_getObj_map hb
  have hs := fun o => MapKept.run_setObj_map (P := P) o hb
  obtain ⟨u, hu⟩ := Option.isSome_iff_exists.1 hk
  obtain ⟨j, h2, _⟩ := findE_some k l 0 u hu
  have h2' : findE k l 0 = some (0 + j, u) := h2
  obtain ⟨e, h3, h4, h5⟩ := putE_set k v clk l 0 j u h2'
  obtain ⟨e', g1, g2, g3, g4⟩ := stampE_find k c0 l 0 j u h2'
  rw [h3] at g1
  cases g1
  have hjl := (List.getElem?_eq_some_iff.1 h3).1
  have hfind : (l.map (Ent.obj enc)).toArray.findIdx? (fun e => (e.born : Int) == ((stampE k c0 l : Nat) : Int)) = some j := by
    rw [List.findIdx?_toArray, List.findIdx?_eq_some_iff_getElem]
    refine ⟨by simpa using hjl, ?_, fun i hi => ?_⟩
    · have e1 : l[j] = e := by rw [List.getElem?_eq_getElem hjl] at h3; exact Option.some.inj h3
      simp [Ent.obj, e1, g2]
    · have hil : i < l.length := by omega
      have hne : l[i].born ≠ e.born := by
        have hp := List.pairwise_iff_getElem.1 hst.1 i j (by simpa using hil) (by simpa using hjl) hi
        have e1 : l[j] = e := by rw [List.getElem?_eq_getElem hjl] at h3; exact Option.some.inj h3
        simpa [e1] using hp
      simp [Ent.obj, g2]
      omega
  have hai : (asInt (goInt (stampE k c0 l))).run P w = .ok ((stampE k c0 l : Nat) : Int) w := by simp [asInt, goInt, asIntOf]
  simp only [Instr.entryStore, Sem.run_bind, hb', Result.andThen_ok, hai, hfind, hs]
  have hm := modify_E enc l j e h3 v
  simp only [setBlock, mapObj, h5]
  have hid : ((l.map (Ent.obj enc)).toArray.modify j fun x => { x with val := v }) = ((l.set j ⟨e.key, v, e.born⟩).map (Ent.obj enc)).toArray := by
    rw [← hm]
    refine Array.ext_getElem? fun i => ?_
    rw [Array.getElem?_modify, Array.getElem?_modify]
    by_cases hi : j = i
    · subst hi
      rw [if_pos rfl, if_pos rfl]
      simp [h3, Ent.obj]
    · rw [if_neg hi, if_neg hi]
  rw [hid]
end

/-! Keys that are numbers, keys that are strings. -/
theorem ba_beq (a b : ByteArray) : (a == b) = decide (a = b) := by
  rw [beq_toListBytes]
  by_cases h : a = b
  · subst h; simp
  · have h2 : a.toList ≠ b.toList := by
      intro e
      rw [ByteArray.toList_eq, ByteArray.toList_eq] at e
      apply h
      obtain ⟨⟨x⟩⟩ := a
      obtain ⟨⟨y⟩⟩ := b
      simpa using e
    have h3 : (a.toList == b.toList) = false := by simpa using h2
    rw [h3]
    simpa using h
theorem intKeys {P : Program} {kt : TypeId} {q : IntKind} (h : P.underlying kt = some (.int q)) : KeysOk P kt (fun n : Int => Value.int q n) (fun _ => True) where
  check b k w := by
    have key : ∀ n, (Instr.checkKey b (n + 1) kt (.int q k)).run P w = .ok () w := fun n => by simp [Instr.checkKey, run_underlying h]
    exact key 9999
  find k l w := by
    have key : ∀ (l : List (Ent Int)) (i : Nat), Instr.findNow (.int q) (.int q k) (l.map (Ent.obj fun n : Int => Value.int q n)) i = some (findE k l i) := by
      intro l
      induction l with
      | nil => intro i; rfl
      | cons e r ih =>
        intro i
        simp only [List.map_cons, Instr.findNow, Ent.obj, Instr.sameNow, findE, if_true]
        by_cases hk : k = e.key
        · subst hk; simp
        · have : (k == e.key) = false := by simpa using hk
          rw [this, if_neg hk]
          exact ih (i + 1)
    simp [Instr.findKey, run_underlying h, key]
  stays k w := by
    have key : ∀ n, Instr.sameBits n (.int q k) (.int q k) = true := fun n => by cases n <;> simp [Instr.sameBits]
    simp only [Instr.keyThatStays, key]
    simp
theorem strKeys {P : Program} {kt : TypeId} (h : P.underlying kt = some .string) : KeysOk P kt (fun s : ByteArray => Value.string s) (fun _ => True) where
  check b k w := by
    have key : ∀ n, (Instr.checkKey b (n + 1) kt (.string k)).run P w = .ok () w := fun n => by simp [Instr.checkKey, run_underlying h]
    exact key 9999
  find k l w := by
    have key : ∀ (l : List (Ent ByteArray)) (i : Nat), Instr.findNow .string (.string k) (l.map (Ent.obj fun n : ByteArray => Value.string n)) i = some (findE k l i) := by
      intro l
      induction l with
      | nil => intro i; rfl
      | cons e r ih =>
        intro i
        simp only [List.map_cons, Instr.findNow, Ent.obj, Instr.sameNow, findE, ba_beq]
        by_cases hk : k = e.key
        · subst hk; simp
        · rw [decide_eq_false hk, if_neg hk]
          exact ih (i + 1)
    simp [Instr.findKey, run_underlying h, key]
  stays k w := by
    have key : ∀ n, Instr.sameBits n (.string k) (.string k) = true := fun n => by cases n <;> simp [Instr.sameBits, ba_beq]
    simp only [Instr.keyThatStays, key]
    simp
end Go.Proofs.Ytnjgkgbgmjoceaa
