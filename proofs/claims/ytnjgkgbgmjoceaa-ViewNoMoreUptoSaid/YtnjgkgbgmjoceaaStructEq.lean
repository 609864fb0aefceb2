/-
  '==' of structs as one Bool, field by field.
-/
import Derived.Test.YtnjgkgbgmjoceaaMapOps
set_option linter.unusedSimpArgs false
set_option linter.unusedVariables false
namespace Go.Proofs.Ytnjgkgbgmjoceaa
open Go.RowKit
section
variable {P : Program} {d : Nat} {xs ys : Array Value} {f : Field} {fs : List Field} {a b : Value} {r s : Bool} {w : World}
theorem fe_last (hn : (f.name == "_") = false) (ha : (part f.type xs f.offset).run P w = .ok a w) (hb : (part f.type ys f.offset).run P w = .ok b w) (he : (Op.equalIn d f.type a b).run P w = .ok r w) : (Op.eqFields d xs ys [f]).run P w = .ok r w := by
  have hn' : f.name ≠ "_" := by simpa using hn
  simp only [Op.eqFields, if_pos hn', Sem.run_bind, ha, hb, he, Result.andThen_ok]
  cases r <;> simp
theorem fe_cons (hn : (f.name == "_") = false) (ha : (part f.type xs f.offset).run P w = .ok a w) (hb : (part f.type ys f.offset).run P w = .ok b w) (he : (Op.equalIn d f.type a b).run P w = .ok r w) (hr : (Op.eqFields d xs ys fs).run P w = .ok s w) : (Op.eqFields d xs ys (f :: fs)).run P w = .ok (r && s) w := by
  have hn' : f.name ≠ "_" := by simpa using hn
  rw [Op.eqFields]
  simp only [if_pos hn', Sem.run_bind, ha, hb, he, Result.andThen_ok]
  cases r
  · simp
  · simpa using hr
theorem fe_of {t : TypeId} {fs : Array Field} (hu : P.underlying t = some (.struct fs)) (hp : P.stoodInHeld t = false) (h : (Op.eqFields d xs ys fs.toList).run P w = .ok r w) : (Op.equalIn (d + 1) t (.agg xs) (.agg ys)).run P w = .ok r w := by
  have hf : P.fieldsOf t = fs := by simp [Program.fieldsOf, hu]
  rw [run_equalIn_struct (P := P) w d t xs ys (by rw [hf]; exact hu) hp, hf]
  exact h
end
/-- Keys that are structs, by their '=='. -/
theorem aggKeys {P : Program} {kt : TypeId} {fs : Array Field} {κ : Type} [DecidableEq κ] {enc : κ → Array Value} (h : P.underlying kt = some (.struct fs))
    (hcheck : ∀ (b : Bool) (k : κ) (w : World), (Instr.checkKey b 10000 kt (.agg (enc k))).run P w = .ok () w)
    (heq : ∀ (a b : κ) (w : World), (Op.equal kt (.agg (enc a)) (.agg (enc b))).run P w = .ok (decide (a = b)) w)
    (hsame : ∀ k : κ, Instr.sameBits 10000 (.agg (enc k)) (.agg (enc k)) = true) : KeysOk P kt (fun k : κ => Value.agg (enc k)) (fun _ => True) where
  check := hcheck
  find k l w := by
    have key : ∀ (l : List (Ent κ)) (i : Nat), (Instr.findAsking kt (.agg (enc k)) (l.map (Ent.obj fun k : κ => Value.agg (enc k))) i).run P w = .ok (findE k l i) w := by
      intro l
      induction l with
      | nil => intro i; rfl
      | cons e r ih =>
        intro i
        simp only [List.map_cons, Instr.findAsking, Ent.obj, Sem.run_bind, heq, Result.andThen_ok, findE]
        by_cases hk : k = e.key
        · subst hk; simp
        · rw [if_neg hk]
          simp only [hk, decide_false, Bool.false_eq_true, if_false]
          exact ih (i + 1)
    cases l with
    | nil => simp [Instr.findKey, run_underlying h, Instr.findNow, findE]
    | cons e r =>
      have := key (e :: r) 0
      simp only [Instr.findKey, Sem.run_bind, run_underlying h, Result.andThen_ok]
      simp only [List.map_cons, Ent.obj, Instr.findNow, Instr.sameNow]
      exact this
  stays k w := by
    simp only [Instr.keyThatStays, hsame]
    simp
end Go.Proofs.Ytnjgkgbgmjoceaa
