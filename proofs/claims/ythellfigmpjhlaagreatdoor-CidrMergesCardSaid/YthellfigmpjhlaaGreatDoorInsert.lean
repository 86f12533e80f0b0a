/- Insertion, each once, in plain lists. -/
import Derived.Test.YthellfigmpjhlaaGreatDoorCompact
namespace Go.Proofs.YthellfigmpjhlaaGreatDoor
set_option linter.unusedVariables false
set_option linter.unusedSimpArgs false
set_option linter.unusedSectionVars false

section
variable {α : Type} [DecidableEq α] [Inhabited α] (c : α → α → Int)
/-- Where k goes, from the back on. -/
def posL (r : List α) (k : α) : Nat → Nat
  | 0 => 0
  | n + 1 => if c k (nth r n) < 0 then posL r k n else n + 1
def insL (r : List α) (k : α) : List α :=
  let n := posL c r k r.length
  if 0 < n ∧ nth r (n - 1) = k then r else (r.take n ++ [k]) ++ r.drop n

theorem posL_at {c : α → α → Int} {r : List α} {k : α} {at' : Nat} (h1 : at' ≤ r.length) (h2 : ∀ j, at' ≤ j → j < r.length → c k (nth r j) < 0) (h3 : ¬ ((at' : Int) > 0) ∨ ¬ c k (nth r ((at' : Int) - 1).toNat) < 0) : posL c r k r.length = at' := by
  have go : ∀ n, at' ≤ n → n ≤ r.length → posL c r k n = at' := by
    intro n
    induction n with
    | zero => intro h _; simp [posL]; omega
    | succ n ih =>
      intro h hn
      unfold posL
      by_cases he : at' = n + 1
      · subst he
        rcases h3 with h3 | h3
        · omega
        · rw [show (((n + 1 : Nat) : Int) - 1).toNat = n by omega] at h3
          rw [if_neg h3]
      · rw [if_pos (h2 n (by omega) (by omega))]
        exact ih (by omega) (by omega)
  exact go _ h1 (Nat.le_refl _)

theorem take_succ' (l : List α) (i : Nat) (h : i < l.length) : l.take (i + 1) = l.take i ++ [nth l i] := by
  rw [List.take_succ_eq_append_getElem h, nth_eq h]

omit [DecidableEq α] in
theorem atRound {c : α → α → Int} {k : α} {r : List α} {at' : Nat} (h0 : (at' : Int) > 0) (h : ∀ j, at' ≤ j → j < r.length → c k (nth r j) < 0) (hc : c k (nth r ((at' : Int) - 1).toNat) < 0) : ∀ j, at' - 1 ≤ j → j < r.length → c k (nth r j) < 0 := fun j h1 h2 => by
  by_cases he : j = at' - 1
  · subst he
    rw [show ((at' : Int) - 1).toNat = at' - 1 by omega] at hc
    exact hc
  · exact h j (by omega) h2

section
variable {c : α → α → Int} {l r : List α} {i at' : Nat}
theorem sortRound0 (hI : i ≤ l.length ∧ r.length ≤ i ∧ r = (l.take i).foldl (insL c) []) (hi : i < l.length) (hp : posL c r (nth l i) r.length = at') (h0 : (at' : Int) > 0) (he : nth r ((at' : Int) - 1).toNat = nth l i) :
    i + 1 ≤ l.length ∧ r.length ≤ i + 1 ∧ r = (l.take (i + 1)).foldl (insL c) [] := by
  refine ⟨hi, by omega, ?_⟩
  rw [take_succ' l i hi, List.foldl_append, ← hI.2.2]
  simp only [List.foldl_cons, List.foldl_nil]
  unfold insL
  simp only [hp]
  rw [show ((at' : Int) - 1).toNat = at' - 1 by omega] at he
  rw [if_pos ⟨by omega, he⟩]

theorem sortRound1 (hI : i ≤ l.length ∧ r.length ≤ i ∧ r = (l.take i).foldl (insL c) []) (hi : i < l.length) (hp : posL c r (nth l i) r.length = at') (h0 : ¬ (at' : Int) > 0 ∨ ¬ nth r ((at' : Int) - 1).toNat = nth l i) :
    i + 1 ≤ l.length ∧ ((r.take at' ++ [nth l i]) ++ r.drop at').length ≤ i + 1 ∧ (r.take at' ++ [nth l i]) ++ r.drop at' = (l.take (i + 1)).foldl (insL c) [] := by
  refine ⟨hi, ?_, ?_⟩
  · simp only [List.length_append, List.length_take, List.length_drop, List.length_cons, List.length_nil]; omega
  rw [take_succ' l i hi, List.foldl_append, ← hI.2.2]
  simp only [List.foldl_cons, List.foldl_nil]
  unfold insL
  simp only [hp]
  rw [if_neg]
  rintro ⟨h1, h2⟩
  rcases h0 with h0 | h0
  · omega
  · rw [show ((at' : Int) - 1).toNat = at' - 1 by omega] at h0
    exact h0 h2

theorem sortEnd (hI : i ≤ l.length ∧ r.length ≤ i ∧ r = (l.take i).foldl (insL c) []) (hi : l.length ≤ i) : r = l.foldl (insL c) [] := by
  rw [hI.2.2, List.take_of_length_le hi]
end


/-! ### One strictly rising list has these members -/
theorem sorted_ext {lt : α → α → Bool} (irr : ∀ x, lt x x = false) (tr : ∀ x y z, lt x y = true → lt y z = true → lt x z = true) : ∀ (s t : List α), s.Pairwise (fun x y => lt x y = true) → t.Pairwise (fun x y => lt x y = true) → (∀ x, x ∈ s ↔ x ∈ t) → s = t
  | [], [], _, _, _ => rfl
  | [], b :: t, _, _, h => absurd ((h b).2 List.mem_cons_self) (by simp)
  | a :: s, [], _, _, h => absurd ((h a).1 List.mem_cons_self) (by simp)
  | a :: s, b :: t, h1, h2, h => by
    rw [List.pairwise_cons] at h1 h2
    have hab : a = b := by
      rcases List.mem_cons.1 ((h a).1 List.mem_cons_self) with e | e
      · exact e
      · rcases List.mem_cons.1 ((h b).2 List.mem_cons_self) with e' | e'
        · exact e'.symm
        · have := tr _ _ _ (h1.1 b e') (h2.1 a e)
          rw [irr] at this
          cases this
    subst hab
    rw [sorted_ext irr tr s t h1.2 h2.2 fun x => ?_]
    constructor
    · intro hx
      rcases List.mem_cons.1 ((h x).1 (List.mem_cons_of_mem _ hx)) with e | e
      · subst e; have := h1.1 x hx; rw [irr] at this; cases this
      · exact e
    · intro hx
      rcases List.mem_cons.1 ((h x).2 (List.mem_cons_of_mem _ hx)) with e | e
      · subst e; have := h2.1 x hx; rw [irr] at this; cases this
      · exact e

theorem compact_go_sorted {lt : α → α → Bool} (tr : ∀ x y z, lt x y = true → lt y z = true → lt x z = true) (conn : ∀ x y, lt x y = false → lt y x = false → x = y) : ∀ (t : List α) (a : α), (a :: t).Pairwise (fun x y => lt y x = false) →
    (a :: compactL.go a t).Pairwise (fun x y => lt x y = true) ∧ ∀ x, x ∈ a :: compactL.go a t ↔ x ∈ a :: t
  | [], a, _ => by simp [compactL.go]
  | b :: t, a, h => by
    unfold compactL.go
    by_cases hb : b = a
    · subst hb
      rw [if_pos rfl]
      rw [List.pairwise_cons] at h
      obtain ⟨h1, h2⟩ := compact_go_sorted tr conn t b h.2
      exact ⟨h1, fun x => by rw [h2 x]; simp⟩
    · rw [if_neg hb]
      rw [List.pairwise_cons] at h
      obtain ⟨h1, h2⟩ := compact_go_sorted tr conn t b h.2
      have hlt : ∀ x, x ∈ b :: t → lt a x = true := by
        have hab : lt a b = true := by
          cases he : lt a b with
          | true => rfl
          | false => exact (hb (conn _ _ (h.1 b List.mem_cons_self) he)).elim
        intro x hx
        rcases List.mem_cons.1 hx with rfl | hx'
        · exact hab
        · rw [List.pairwise_cons] at h
          cases he : lt b x with
          | true => exact tr _ _ _ hab he
          | false => rw [← conn _ _ he (h.2.1 x hx')]; exact hab
      refine ⟨List.pairwise_cons.2 ⟨fun x hx => hlt x ((h2 x).1 hx), h1⟩, fun x => ?_⟩
      rw [List.mem_cons, h2 x, ← List.mem_cons]

theorem compact_sorted {lt : α → α → Bool} (tr : ∀ x y z, lt x y = true → lt y z = true → lt x z = true) (conn : ∀ x y, lt x y = false → lt y x = false → x = y) (l : List α) (h : l.Pairwise (fun x y => lt y x = false)) :
    (compactL l).Pairwise (fun x y => lt x y = true) ∧ ∀ x, x ∈ compactL l ↔ x ∈ l := by
  cases l with
  | nil => simp [compactL]
  | cons a t => exact compact_go_sorted tr conn t a h

theorem posL_spec (c : α → α → Int) (r : List α) (k : α) : ∀ n, n ≤ r.length → posL c r k n ≤ n ∧ (∀ j, posL c r k n ≤ j → j < n → c k (nth r j) < 0) ∧ (posL c r k n = 0 ∨ ¬ c k (nth r (posL c r k n - 1)) < 0)
  | 0, _ => ⟨Nat.le_refl _, fun j h1 h2 => by omega, .inl rfl⟩
  | n + 1, hn => by
    unfold posL
    by_cases hc : c k (nth r n) < 0
    · rw [if_pos hc]
      obtain ⟨h1, h2, h3⟩ := posL_spec c r k n (by omega)
      refine ⟨by omega, fun j hj1 hj2 => ?_, h3⟩
      by_cases he : j = n
      · subst he; exact hc
      · exact h2 j hj1 (by omega)
    · rw [if_neg hc]
      exact ⟨Nat.le_refl _, fun j h1 h2 => by omega, .inr hc⟩

theorem insL_sorted {lt : α → α → Bool} (hlt : ∀ x y, decide (c x y < 0) = lt x y) (tr : ∀ x y z, lt x y = true → lt y z = true → lt x z = true) (conn : ∀ x y, lt x y = false → lt y x = false → x = y) (r : List α) (k : α) (h : r.Pairwise (fun x y => lt x y = true)) :
    (insL c r k).Pairwise (fun x y => lt x y = true) ∧ ∀ x, x ∈ insL c r k ↔ x ∈ r ∨ x = k := by
  obtain ⟨h1, h2, h3⟩ := posL_spec c r k r.length (Nat.le_refl _)
  unfold insL
  simp only
  generalize posL c r k r.length = n at h1 h2 h3
  by_cases hh : 0 < n ∧ nth r (n - 1) = k
  · rw [if_pos hh]
    refine ⟨h, fun x => ⟨.inl, fun hx => hx.elim id fun e => ?_⟩⟩
    subst e
    rw [← hh.2, nth_eq (by omega)]
    exact List.getElem_mem _
  · rw [if_neg hh]
    have hdrop : ∀ x ∈ r.drop n, lt k x = true := by
      intro x hx
      obtain ⟨j, hj, rfl⟩ := List.mem_iff_getElem.1 hx
      rw [List.length_drop] at hj
      have := h2 (n + j) (by omega) (by omega)
      rw [← hlt, decide_eq_true_iff, List.getElem_drop, ← nth_eq (by omega)]
      exact this
    have htake : ∀ x ∈ r.take n, lt x k = true := by
      intro x hx
      rcases Nat.eq_zero_or_pos n with h0 | h0
      · subst h0; simp at hx
      have hlast : lt (nth r (n - 1)) k = true := by
        have e1 : lt k (nth r (n - 1)) = false := by
          rw [← hlt, decide_eq_false_iff_not]
          exact h3.resolve_left (by omega)
        cases he : lt (nth r (n - 1)) k with
        | true => rfl
        | false => exact (hh ⟨h0, (conn _ _ he e1)⟩).elim
      obtain ⟨j, hj, rfl⟩ := List.mem_iff_getElem.1 hx
      rw [List.length_take] at hj
      rw [List.getElem_take]
      by_cases hjn : j = n - 1
      · subst hjn; rw [← nth_eq (by omega)]; exact hlast
      · have := List.pairwise_iff_getElem.1 h j (n - 1) (by omega) (by omega) (by omega)
        rw [nth_eq (by omega)] at hlast
        exact tr _ _ _ this hlast
    have hboth : ∀ x ∈ r.take n, ∀ y ∈ r.drop n, lt x y = true := fun x hx y hy => tr _ _ _ (htake x hx) (hdrop y hy)
    refine ⟨?_, fun x => ?_⟩
    · rw [List.append_assoc, List.pairwise_append, List.singleton_append, List.pairwise_cons]
      refine ⟨h.sublist (List.take_sublist _ _), ⟨hdrop, h.sublist (List.drop_sublist _ _)⟩, fun x hx y hy => ?_⟩
      rcases List.mem_cons.1 hy with rfl | hy
      · exact htake x hx
      · exact hboth x hx y hy
    · have : x ∈ r ↔ x ∈ r.take n ∨ x ∈ r.drop n := by rw [← List.mem_append, List.take_append_drop]
      rw [this]
      simp only [List.mem_append, List.mem_singleton]
      constructor
      · rintro ((a | a) | a)
        · exact .inl (.inl a)
        · exact .inr a
        · exact .inl (.inr a)
      · rintro ((a | a) | a)
        · exact .inl (.inl a)
        · exact .inr a
        · exact .inl (.inr a)

theorem foldl_insL_sorted {lt : α → α → Bool} (hlt : ∀ x y, decide (c x y < 0) = lt x y) (tr : ∀ x y z, lt x y = true → lt y z = true → lt x z = true) (conn : ∀ x y, lt x y = false → lt y x = false → x = y) : ∀ (l r : List α), r.Pairwise (fun x y => lt x y = true) →
    (l.foldl (insL c) r).Pairwise (fun x y => lt x y = true) ∧ ∀ x, x ∈ l.foldl (insL c) r ↔ x ∈ r ∨ x ∈ l
  | [], r, h => ⟨h, fun x => by simp⟩
  | k :: t, r, h => by
    obtain ⟨h1, h2⟩ := insL_sorted c hlt tr conn r k h
    obtain ⟨h3, h4⟩ := foldl_insL_sorted hlt tr conn t _ h1
    refine ⟨h3, fun x => ?_⟩
    rw [List.foldl_cons, h4 x, h2 x, List.mem_cons, or_assoc]

/-- SORTED AND EACH ONCE IS WHAT INSERTION MAKES. -/
theorem sort_insert {lt : α → α → Bool} (hlt : ∀ x y, decide (c x y < 0) = lt x y) (irr : ∀ x, lt x x = false) (tr : ∀ x y z, lt x y = true → lt y z = true → lt x z = true) (conn : ∀ x y, lt x y = false → lt y x = false → x = y) (l : List α) :
    compactL (l.mergeSort fun x y => !lt y x) = l.foldl (insL c) [] := by
  have asym : ∀ x y, lt x y = true → lt y x = false := fun x y h => by
    cases h' : lt y x with
    | false => rfl
    | true => have := tr _ _ _ h h'; rw [irr] at this; cases this
  have hs : (l.mergeSort fun x y => !lt y x).Pairwise (fun x y => lt y x = false) := by
    have := List.pairwise_mergeSort (le := fun x y => !lt y x) (fun a b d h1 h2 => by
      simp only [Bool.not_eq_true'] at h1 h2 ⊢
      cases h3 : lt d a with
      | false => rfl
      | true =>
        cases h4 : lt a b with
        | true => have := tr _ _ _ h3 h4; rw [h2] at this; cases this
        | false => have := conn _ _ h4 h1; subst this; rw [h2] at h3; cases h3) (fun a b => by
      cases h1 : lt b a with
      | false => simp
      | true => simp [asym _ _ h1]) l
    exact this.imp fun h => by simpa using h
  obtain ⟨h1, h2⟩ := compact_sorted tr conn _ hs
  obtain ⟨h3, h4⟩ := foldl_insL_sorted c hlt tr conn l [] List.Pairwise.nil
  refine sorted_ext irr tr _ _ h1 h3 fun x => ?_
  rw [h2 x, h4 x, (List.mergeSort_perm l _).mem_iff]
  simp
end
end Go.Proofs.YthellfigmpjhlaaGreatDoor
