/- '==' of structs and arrays as one Bool. -/
import Derived.Test.YthellfigmpjhlaaGreatDoorEng
import Derived.Laws.StructEq
namespace Go.Proofs.YthellfigmpjhlaaGreatDoor
open Go Go.RowKit
section
variable {P : Program} {d : Nat} {xs ys : Array Value} {f : Field} {fs : List Field} {a b : Value} {r s : Bool} {W : World}

theorem eqf_nil : (Op.eqFields d xs ys []).run P W = .ok true W := by simp [Op.eqFields]

theorem eqf_cons (hn : (f.name == "_") = false) (ha : (part f.type xs f.offset).run P W = .ok a W) (hb : (part f.type ys f.offset).run P W = .ok b W) (he : (Op.equalIn d f.type a b).run P W = .ok r W) (hr : (Op.eqFields d xs ys fs).run P W = .ok s W) :
    (Op.eqFields d xs ys (f :: fs)).run P W = .ok (r && s) W := by
  have hn' : f.name ≠ "_" := by simpa using hn
  rw [Op.eqFields]
  simp only [if_pos hn', Sem.run_bind, ha, hb, he, Result.andThen_ok]
  cases r
  · simp
  · simpa using hr

theorem eq_struct {t : TypeId} {fs : Array Field} (hu : P.underlying t = some (.struct fs)) (hp : P.stoodInHeld t = false) (h : (Op.eqFields d xs ys fs.toList).run P W = .ok r W) : (Op.equalIn (d + 1) t (.agg xs) (.agg ys)).run P W = .ok r W := by
  have hf : P.fieldsOf t = fs := by simp [Program.fieldsOf, hu]
  rw [run_equalIn_struct (P := P) W d t xs ys (by rw [hf]; exact hu) hp, hf]
  exact h

theorem eq_str {t : TypeId} {x y : ByteArray} (hu : P.underlying t = some .string) : (Op.equalIn (d + 1) t (.string x) (.string y)).run P W = .ok (strEq x y) W := run_equalIn_string W d t x y hu
theorem eq_int {t : TypeId} {k k' : IntKind} {x y : Int} (hu : P.underlying t = some (.int k')) : (Op.equalIn (d + 1) t (.int k x) (.int k y)).run P W = .ok (x == y) W := run_equalIn_int W d t k k' x y hu
theorem eq_bool {t : TypeId} {x y : Bool} (hu : P.underlying t = some .bool) : (Op.equalIn (d + 1) t (.bool x) (.bool y)).run P W = .ok (x == y) W := run_equalIn_bool W d t x y hu

/-- Cell by cell, from i on. -/
def eqCells (p q : Nat → Value) (eq : Value → Value → Bool) : Nat → Nat → Bool
  | _, 0 => true
  | i, k + 1 => eq (p i) (q i) && eqCells p q eq (i + 1) k

theorem forIn_range_eq {xs ys : Array Value} {elem : TypeId} {n : Nat} {p q : Nat → Value} {eq : Value → Value → Bool} (N : Nat)
    (hp : ∀ i, i < N → (part elem xs (i * n)).run P W = .ok (p i) W) (hq : ∀ i, i < N → (part elem ys (i * n)).run P W = .ok (q i) W) (he : ∀ i, i < N → (Op.equalIn d elem (p i) (q i)).run P W = .ok (eq (p i) (q i)) W) :
    ∀ (k i : Nat), i + k = N →
      (forIn (List.range' i k) (⟨none, ()⟩ : MProd (Option Bool) Unit) fun i (_ : MProd (Option Bool) Unit) => do
        let x ← part elem xs (i * n)
        let y ← part elem ys (i * n)
        let c ← Op.equalIn d elem x y
        if (!c) = true then pure (ForInStep.done (⟨some false, ()⟩ : MProd (Option Bool) Unit)) else pure (ForInStep.yield ⟨none, ()⟩) : Sem (MProd (Option Bool) Unit)).run P W =
      .ok (if eqCells p q eq i k then ⟨none, ()⟩ else ⟨some false, ()⟩) W
  | 0, i, _ => by simp [eqCells]
  | k + 1, i, hk => by
    have hi : i < N := by omega
    have ih := forIn_range_eq N hp hq he k (i + 1) (by omega)
    simp only [List.range'_succ, List.forIn_cons, Sem.run_bind, hp i hi, hq i hi, he i hi, Result.andThen_ok, eqCells]
    by_cases hc : eq (p i) (q i) = true
    · rw [if_neg (by simp [hc])]
      simp only [Sem.run_pure, Result.andThen_ok, hc, Bool.true_and]
      exact ih
    · rw [if_pos (by simpa using hc)]
      simp only [Sem.run_pure, Result.andThen_ok, hc, Bool.false_and]
      simp
end
end Go.Proofs.YthellfigmpjhlaaGreatDoor
