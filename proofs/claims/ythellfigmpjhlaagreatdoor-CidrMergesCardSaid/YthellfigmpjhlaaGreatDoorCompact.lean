/- 'slices.Compact' in plain lists. -/
import Derived.Test.YthellfigmpjhlaaGreatDoorSlice
namespace Go.Proofs.YthellfigmpjhlaaGreatDoor
set_option linter.unusedVariables false
set_option linter.unusedSimpArgs false
set_option linter.unusedSectionVars false

section
variable {α : Type} [DecidableEq α] [Inhabited α]
def compactL : List α → List α
  | [] => []
  | a :: t => a :: go a t
where go (a : α) : List α → List α
  | [] => []
  | b :: t => if b = a then go a t else b :: go b t

theorem compact_go_snoc : ∀ (t : List α) (a x : α), compactL.go a (t ++ [x]) = if x = (t.getLast?.getD a) then compactL.go a t else compactL.go a t ++ [x]
  | [], a, x => by by_cases h : x = a <;> simp [compactL.go, h]
  | b :: t, a, x => by
    simp only [List.cons_append, compactL.go]
    by_cases hb : b = a
    · subst hb
      rw [if_pos rfl, if_pos rfl, compact_go_snoc t b x]
      have : ((b :: t).getLast?.getD b) = t.getLast?.getD b := by cases t <;> simp [List.getLast?_cons]
      rw [this]
    · rw [if_neg hb, if_neg hb, compact_go_snoc t b x]
      have : ((b :: t).getLast?.getD a) = t.getLast?.getD b := by cases t <;> simp [List.getLast?_cons]
      rw [this]
      split <;> simp

theorem compact_succ (l : List α) (n : Nat) (h0 : 1 ≤ n) (hn : n < l.length) : compactL (l.take (n + 1)) = if nth l n = nth l (n - 1) then compactL (l.take n) else compactL (l.take n) ++ [nth l n] := by
  rw [List.take_succ_eq_append_getElem hn, ← nth_eq hn]
  have hl : (l.take n).getLast? = some (nth l (n - 1)) := by
    rw [List.getLast?_eq_getElem?, List.length_take, Nat.min_eq_left (by omega), List.getElem?_take, if_pos (by omega), List.getElem?_eq_getElem (by omega), nth_eq (by omega)]
  cases ht : l.take n with
  | nil => rw [ht] at hl; simp at hl
  | cons a t =>
    rw [ht] at hl
    simp only [List.cons_append, compactL, compact_go_snoc]
    have : t.getLast?.getD a = nth l (n - 1) := by
      cases t with
      | nil => simpa using hl
      | cons b s => rw [List.getLast?_cons_cons] at hl; simp [hl]
    rw [this]
    split <;> simp

theorem compact_one (l : List α) (h : l.length < 2) : compactL l = l := by
  match l, h with
  | [], _ => rfl
  | [a], _ => rfl

theorem compact_apart (l : List α) (n : Nat) (hn : n ≤ l.length) (h : ∀ j, 1 ≤ j → j < n → nth l j ≠ nth l (j - 1)) : compactL (l.take n) = l.take n := by
  induction n with
  | zero => rfl
  | succ n ih =>
    rcases Nat.eq_zero_or_pos n with h0 | h0
    · subst h0; exact compact_one _ (by simp; omega)
    · rw [compact_succ l n h0 hn, if_neg (h n h0 (by omega)), ih (by omega) (fun j h1 h2 => h j h1 (by omega)), List.take_succ_eq_append_getElem hn, nth_eq hn]

/-- The state inside: k0: where the first two alike stand; i places of what is from there on have been seen; n are written. -/
structure CInv (l r : List α) (k0 i n : Nat) : Prop where
  len : r.length = l.length
  i1 : 1 ≤ i
  il : k0 + i ≤ l.length
  n1 : 1 ≤ n
  nl : n ≤ k0 + i - 1
  done : r.take n = compactL (l.take (k0 + i))
  rest : ∀ j, k0 + i - 1 ≤ j → j < l.length → nth r j = nth l j

theorem cinv0 {l : List α} {n : Nat} (h0 : 1 ≤ n) (hn : n < l.length) (h : ∀ j, 1 ≤ j → j < n → nth l j ≠ nth l (j - 1)) (he : nth l n = nth l (n - 1)) : CInv l l n 1 n :=
  ⟨rfl, Nat.le_refl _, hn, h0, by omega, by rw [compact_succ l n h0 hn, if_pos he, compact_apart l n (by omega) h], fun _ _ _ => rfl⟩

theorem CInv.skip {l r : List α} {k0 i n : Nat} (h : CInv l r k0 i n) (hi : k0 + i < l.length) (he : nth r (k0 + i) = nth r (k0 + i - 1)) : CInv l r k0 (i + 1) n := by
  have e1 := h.rest (k0 + i) (by omega) hi
  have e2 := h.rest (k0 + i - 1) (Nat.le_refl _) (by have := h.i1; omega)
  have := h.i1
  have := h.nl
  refine ⟨h.len, by omega, hi, h.n1, by omega, ?_, fun j h1 h2 => h.rest j (by omega) h2⟩
  rw [show k0 + (i + 1) = k0 + i + 1 by omega, compact_succ l (k0 + i) (by omega) hi, if_pos (by rw [← e1, ← e2]; exact he)]
  exact h.done

theorem nth_set {l : List α} {i j : Nat} {x : α} (hi : i < l.length) (hj : j < l.length) : nth (l.set i x) j = if i = j then x else nth l j := by
  rw [nth_eq (by simpa using hj), nth_eq hj, List.getElem_set]

theorem CInv.put {l r : List α} {k0 i n : Nat} (h : CInv l r k0 i n) (hi : k0 + i < l.length) (hne : ¬ nth r (k0 + i) = nth r (k0 + i - 1)) : CInv l (r.set n (nth r (k0 + i))) k0 (i + 1) (n + 1) := by
  have e1 := h.rest (k0 + i) (by omega) hi
  have hl := h.len
  have e2 := h.rest (k0 + i - 1) (Nat.le_refl _) (by omega)
  have := h.i1
  have := h.nl
  refine ⟨by simpa using hl, by omega, hi, by omega, by omega, ?_, fun j h1 h2 => ?_⟩
  · rw [show k0 + (i + 1) = k0 + i + 1 by omega, compact_succ l (k0 + i) (by omega) hi, if_neg (by rw [← e1, ← e2]; exact hne), ← h.done, ← e1, List.take_succ_eq_append_getElem (by simp; omega), List.getElem_set_self, List.take_set_of_le (Nat.le_refl _)]
  · rw [nth_set (by omega) (by omega), if_neg (by omega)]
    exact h.rest j (by omega) h2

theorem CInv.fin {l r : List α} {k0 i n : Nat} (h : CInv l r k0 i n) (hi : ¬ k0 + i < l.length) : r.take n = compactL l := by
  rw [h.done, List.take_of_length_le (by omega)]

theorem nth_drop (l : List α) (k i : Nat) : nth (l.drop k) i = nth l (k + i) := by
  unfold nth
  simp [List.getD_eq_getElem?_getD, List.getElem?_drop]

theorem CInv.skip' {l r : List α} {k0 i n : Nat} (h : CInv l r k0 i n) (hi : (i : Int) < ((l.drop k0).length : Int)) (he : nth (r.drop k0) i = nth (r.drop k0) ((i : Int) - 1).toNat) :
    CInv l r k0 (i + 1) n ∧ r.length = l.length ∧ 1 ≤ i + 1 ∧ k0 + (i + 1) ≤ l.length ∧ 1 ≤ n ∧ n ≤ k0 + (i + 1) - 1 := by
  rw [List.length_drop] at hi
  have h1 := h.i1
  rw [nth_drop, nth_drop, show k0 + ((i : Int) - 1).toNat = k0 + i - 1 by omega] at he
  have := h.skip (by omega) he
  exact ⟨this, this.len, this.i1, this.il, this.n1, this.nl⟩

theorem CInv.put' {l r : List α} {k0 i n : Nat} (h : CInv l r k0 i n) (hi : (i : Int) < ((l.drop k0).length : Int)) (he : ¬ nth (r.drop k0) i = nth (r.drop k0) ((i : Int) - 1).toNat) :
    CInv l (r.set n (nth (r.drop k0) i)) k0 (i + 1) (n + 1) ∧ (r.set n (nth (r.drop k0) i)).length = l.length ∧ 1 ≤ i + 1 ∧ k0 + (i + 1) ≤ l.length ∧ 1 ≤ n + 1 ∧ n + 1 ≤ k0 + (i + 1) - 1 := by
  rw [List.length_drop] at hi
  have h1 := h.i1
  rw [nth_drop, nth_drop, show k0 + ((i : Int) - 1).toNat = k0 + i - 1 by omega] at he
  have := h.put (by omega) he
  rw [nth_drop]
  exact ⟨this, this.len, this.i1, this.il, this.n1, this.nl⟩

theorem CInv.fin' {l r : List α} {k0 i n : Nat} (h : CInv l r k0 i n) (hi : ¬ (i : Int) < ((l.drop k0).length : Int)) : r.take n = compactL l := by
  rw [List.length_drop] at hi
  have := h.il
  exact h.fin (by omega)

theorem cinv0' {l : List α} {n : Nat} (h : 1 ≤ n ∧ n ≤ l.length ∧ ∀ j, 1 ≤ j → j < n → nth l j ≠ nth l (j - 1)) (hn : (n : Int) < (l.length : Int)) (he : nth l n = nth l ((n : Int) - 1).toNat) :
    CInv l l n 1 n ∧ l.length = l.length ∧ 1 ≤ 1 ∧ n + 1 ≤ l.length ∧ 1 ≤ n ∧ n ≤ n + 1 - 1 := by
  rw [show ((n : Int) - 1).toNat = n - 1 by omega] at he
  have := cinv0 h.1 (by omega) h.2.2 he
  exact ⟨this, this.len, this.i1, this.il, this.n1, this.nl⟩

theorem compRound {l : List α} {n : Nat} (h : 1 ≤ n ∧ n ≤ l.length ∧ ∀ j, 1 ≤ j → j < n → nth l j ≠ nth l (j - 1)) (hn : (n : Int) < (l.length : Int)) (he : ¬ nth l n = nth l ((n : Int) - 1).toNat) :
    1 ≤ n + 1 ∧ n + 1 ≤ l.length ∧ ∀ j, 1 ≤ j → j < n + 1 → nth l j ≠ nth l (j - 1) := by
  rw [show ((n : Int) - 1).toNat = n - 1 by omega] at he
  refine ⟨by omega, by omega, fun j h1 h2 => ?_⟩
  by_cases hj : j = n
  · subst hj; exact he
  · exact h.2.2 j h1 (by omega)

theorem compEnd {l : List α} {n : Nat} (h : 1 ≤ n ∧ n ≤ l.length ∧ ∀ j, 1 ≤ j → j < n → nth l j ≠ nth l (j - 1)) (hn : ¬ (n : Int) < (l.length : Int)) : compactL l = l := by
  have := compact_apart l n h.2.1 h.2.2
  rwa [List.take_of_length_le (by omega)] at this
end
end Go.Proofs.YthellfigmpjhlaaGreatDoor
