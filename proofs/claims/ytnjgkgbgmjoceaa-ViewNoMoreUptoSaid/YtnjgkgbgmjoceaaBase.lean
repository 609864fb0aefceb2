/-
  General words and lemmas of this session's own: ranges of integers, small closers.
-/
import Derived.WalkKit
import Derived.WalkSpells
import Derived.WalkLawsBesides
import Derived.Lib.Hide
import Derived.IntWalk
import Derived.Maps.OwnSet
import Derived.BigQuiet
import Derived.Deep.QuietTactic
namespace Go.Proofs.Ytnjgkgbgmjoceaa
open Go.RowKit

/-- The numbers of an int64. -/
def I64 (a : Int) : Prop := -9223372036854775808 ≤ a ∧ a ≤ 9223372036854775807
theorem I64.lo {a : Int} (h : I64 a) : -9223372036854775808 ≤ a := h.1
theorem I64.hi {a : Int} (h : I64 a) : a ≤ 9223372036854775807 := h.2
theorem I64.of_wf {a : Int} (h : (Lit.int .i64 a).wf = true) : I64 a := by
  have h2 : IntKind.i64.min ≤ a ∧ a ≤ IntKind.i64.max := by simpa [Lit.wf] using h
  have e1 : IntKind.i64.min = -9223372036854775808 := by decide
  have e2 : IntKind.i64.max = 9223372036854775807 := by decide
  unfold I64
  omega
theorem I64.wf {a : Int} (h : I64 a) : (Lit.int .i64 a).wf = true := by
  have e1 : IntKind.i64.min = -9223372036854775808 := by decide
  have e2 : IntKind.i64.max = 9223372036854775807 := by decide
  unfold I64 at h
  simp only [Lit.wf, e1, e2]
  simpa using h
/-- A length that leaves room. -/
def Room (n : Nat) : Prop := n < 1099511627776
theorem Room.lt {n : Nat} (h : Room n) : n < 1099511627776 := h
theorem ret_int {k : IntKind} {a b : Int} (h : a = b) : Ending.returned (.int k a) = .returned (.int k b) := by rw [h]
theorem ret_bool {a b : Bool} (h : a = b) : Ending.returned (.bool a) = .returned (.bool b) := by rw [h]
theorem ret_pair {a b c d : Value} (h : a = c) (k : b = d) : Ending.returned (.tuple #[a, b]) = .returned (.tuple #[c, d]) := by rw [h, k]
theorem wrap64_id {a : Int} (h : I64 a) : wrap64 a = a := by
  unfold I64 at h
  unfold wrap64
  omega

/-- The later world: what lay there lies there unturned; new blocks, draws. -/
structure Up (w w' : World) : Prop where
  os : w'.os = w.os
  tape : w'.tape = w.tape
  output : w'.output = w.output
  size : w.heap.size ≤ w'.heap.size
  block : ∀ k, k < w.heap.size → w'.heap[k]? = w.heap[k]?
  drawn : w.drawn ≤ w'.drawn
theorem Up.below {w w' : World} (h : Up w w') : Below w.heap.size w w' := ⟨h.os, h.tape, h.output, h.size, h.block⟩
theorem Up.refl (w : World) : Up w w := ⟨rfl, rfl, rfl, Nat.le_refl _, fun _ _ => rfl, Nat.le_refl _⟩
theorem Up.trans {a b c : World} (h : Up a b) (k : Up b c) : Up a c :=
  ⟨k.os.trans h.os, k.tape.trans h.tape, k.output.trans h.output, Nat.le_trans h.size k.size, fun i hi => (k.block i (Nat.lt_of_lt_of_le hi h.size)).trans (h.block i hi), Nat.le_trans h.drawn k.drawn⟩
theorem Up.alloc {w W : World} (h : Up w W) (o : Obj) : Up w (W.alloc o) :=
  h.trans ⟨rfl, rfl, rfl, by simp, fun k hk => Below.heap_alloc _ _ _ hk, Nat.le_refl _⟩
theorem Up.drew {w W : World} (h : Up w W) : Up w W.drew := h.trans ⟨rfl, rfl, rfl, Nat.le_refl _, fun _ _ => rfl, Nat.le_succ _⟩
theorem Up.drewN {w W : World} (h : Up w W) (n : Nat) : Up w (W.drewN n) := h.trans ⟨rfl, rfl, rfl, Nat.le_refl _, fun _ _ => rfl, Nat.le_add_right _ _⟩
/-- A store into a block that is new. -/
theorem Up.setCell {w W : World} (h : Up w W) {a : Addr} (ha : w.heap.size ≤ a.block) (v : Value) : Up w (W.setCell a v) :=
  ⟨h.os, h.tape, h.output, by simpa [World.setCell] using h.size, fun k hk => (Below.heap_setCell W a v k (by omega)).trans (h.block k hk), h.drawn⟩
/-- Blocks outside S lie as they lay; the streams, too. -/
structure Kp (S : Nat → Prop) (w w' : World) : Prop where
  os : w'.os = w.os
  tape : w'.tape = w.tape
  output : w'.output = w.output
  size : w.heap.size ≤ w'.heap.size
  block : ∀ k, k < w.heap.size → ¬ S k → w'.heap[k]? = w.heap[k]?
theorem Kp.refl (S : Nat → Prop) (w : World) : Kp S w w := ⟨rfl, rfl, rfl, Nat.le_refl _, fun _ _ _ => rfl⟩
theorem Kp.trans {S : Nat → Prop} {a b c : World} (h : Kp S a b) (k : Kp S b c) : Kp S a c :=
  ⟨k.os.trans h.os, k.tape.trans h.tape, k.output.trans h.output, Nat.le_trans h.size k.size, fun i hi hs => (k.block i (Nat.lt_of_lt_of_le hi h.size) hs).trans (h.block i hi hs)⟩
theorem Kp.mono {S T : Nat → Prop} {a b : World} (h : Kp S a b) (hST : ∀ k, k < a.heap.size → S k → T k) : Kp T a b :=
  ⟨h.os, h.tape, h.output, h.size, fun i hi ht => h.block i hi (fun hs => ht (hST i hi hs))⟩
theorem Kp.up {S : Nat → Prop} {a b : World} (h : Up a b) : Kp S a b := ⟨h.os, h.tape, h.output, h.size, fun i hi _ => h.block i hi⟩
theorem Kp.grown {S : Nat → Prop} {a b : World} {row : Option Nat} (h : a.grownBy b row) (hr : ∀ k, row = some k → S k) : Kp S a b :=
  ⟨h.os, h.tape, h.output, h.size, fun i hi hs => h.block i hi (fun e => hs (hr i e.symm))⟩
theorem Kp.setCell {S : Nat → Prop} (w : World) (a : Addr) (v : Value) (h : S a.block) : Kp S w (w.setCell a v) :=
  ⟨rfl, rfl, rfl, by simp [World.setCell], fun k _ hs => Below.heap_setCell w a v k (fun e => hs (e ▸ h))⟩
theorem Kp.alloc {S : Nat → Prop} (w : World) (o : Obj) : Kp S w (w.alloc o) := .up ((Up.refl w).alloc o)
theorem Kp.drew {S : Nat → Prop} (w : World) : Kp S w w.drew := .up ((Up.refl w).drew)
theorem Kp.at {S : Nat → Prop} {a b : World} (h : Kp S a b) {k : Nat} {o : Obj} (ho : a.heap[k]? = some o) (hs : ¬ S k) : b.heap[k]? = some o := (h.block k (Array.getElem?_eq_some_iff.1 ho).1 hs).trans ho
theorem Kp.below {S : Nat → Prop} {a b : World} (h : Kp S a b) {B : Nat} (hB : B ≤ a.heap.size) (hS : ∀ k, S k → B ≤ k) : Below B a b :=
  ⟨h.os, h.tape, h.output, h.size, fun i hi => h.block i (by omega) (fun hs => by have := hS i hs; omega)⟩
theorem Kp.of_below {B : Nat} {a b : World} (h : Below B a b) : Kp (fun k => B ≤ k) a b := ⟨h.os, h.tape, h.output, h.size, fun i hi hs => h.block i (by omega)⟩
theorem Kp.grownBy {S : Nat → Prop} {a b : World} (h : Kp S a b) (hS : ∀ k, k < a.heap.size → ¬ S k) : a.grownBy b none := ⟨h.os, h.tape, h.output, h.size, fun i hi _ => h.block i hi (hS i hi)⟩

/-- What lay there reads in a later world as it did. -/
theorem ucell {W w1 : World} (hb : Up W w1) : (∀ b o, b < W.heap.size → w1.cell? ⟨b, o, none⟩ = W.cell? ⟨b, o, none⟩) ∧ (∀ b o, b < W.heap.size → w1.frozen? ⟨b, o, none⟩ = W.frozen? ⟨b, o, none⟩) :=
  ⟨fun b o h => hb.below.cell (p := ⟨b, o, none⟩) h, fun b o h => hb.below.frozen (p := ⟨b, o, none⟩) h⟩
theorem bcell {W w1 : World} (hb : Below W.heap.size W w1) : (∀ b o, b < W.heap.size → w1.cell? ⟨b, o, none⟩ = W.cell? ⟨b, o, none⟩) ∧ (∀ b o, b < W.heap.size → w1.frozen? ⟨b, o, none⟩ = W.frozen? ⟨b, o, none⟩) :=
  ⟨fun b o h => hb.cell (p := ⟨b, o, none⟩) h, fun b o h => hb.frozen (p := ⟨b, o, none⟩) h⟩
end Go.Proofs.Ytnjgkgbgmjoceaa
