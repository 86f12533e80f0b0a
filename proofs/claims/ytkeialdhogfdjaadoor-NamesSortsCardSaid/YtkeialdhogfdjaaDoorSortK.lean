/- Keys in order: plain laws. -/
import Derived.Test.YtkeialdhogfdjaaDoorApi
import Derived.Test.YtkeialdhogfdjaaDoorSlice
import Derived.Test.YtkeialdhogfdjaaDoorInsert
import Derived.Test.YtkeialdhogfdjaaDoorSort
namespace Go.Proofs.YtkeialdhogfdjaaDoor
set_option linter.unusedVariables false
set_option linter.unusedSimpArgs false
set_option linter.unusedSectionVars false
open Go Go.RowKit

def strL (s : ByteArray) : List Value := [.string s]
def i64L (i : Int) : List Value := [.int .i64 i]
instance : Inhabited ByteArray := ⟨ByteArray.empty⟩

theorem strLt_self (s : ByteArray) : strLt s s = false := by
  unfold strLt
  generalize s.toList = l
  induction l with
  | nil => rfl
  | cons x t ih => simp [Op.bytesLess, ih]

def lessK (a b : Key) : Bool := strLt a.space b.space || (strEq a.space b.space && strLt a.name b.name)
def cmpK (a b : Key) : Int := if lessK a b then -1 else if a = b then 0 else 1
/-! ### Strings and keys are in a total order -/
theorem bl_irrefl : ∀ l : List UInt8, Op.bytesLess l l = false
  | [] => rfl
  | x :: t => by simp [Op.bytesLess, bl_irrefl t]

theorem bl_conn : ∀ a b : List UInt8, Op.bytesLess a b = false → Op.bytesLess b a = false → a = b
  | [], [], _, _ => rfl
  | [], y :: u, h, _ => by simp [Op.bytesLess] at h
  | x :: t, [], _, h => by simp [Op.bytesLess] at h
  | x :: t, y :: u, h1, h2 => by
    simp only [Op.bytesLess] at h1 h2
    by_cases hxy : x < y
    · simp [hxy] at h1
    · by_cases hyx : y < x
      · simp [hyx] at h2
      · have : x = y := UInt8.le_antisymm (UInt8.not_lt.1 hyx) (UInt8.not_lt.1 hxy)
        subst this
        simp [hxy] at h1 h2
        rw [bl_conn t u h1 h2]

theorem bl_trans : ∀ a b c : List UInt8, Op.bytesLess a b = true → Op.bytesLess b c = true → Op.bytesLess a c = true
  | [], [], _, h, _ => by simp [Op.bytesLess] at h
  | [], y :: u, [], _, h => by simp [Op.bytesLess] at h
  | [], y :: u, z :: v, _, _ => by simp [Op.bytesLess]
  | x :: t, [], _, h, _ => by simp [Op.bytesLess] at h
  | x :: t, y :: u, [], _, h => by simp [Op.bytesLess] at h
  | x :: t, y :: u, z :: v, h1, h2 => by
    simp only [Op.bytesLess, Bool.or_eq_true, decide_eq_true_eq, Bool.and_eq_true, beq_iff_eq] at h1 h2 ⊢
    rcases h1 with h1 | ⟨rfl, h1⟩
    · rcases h2 with h2 | ⟨rfl, _⟩
      · exact .inl (UInt8.lt_trans h1 h2)
      · exact .inl h1
    · rcases h2 with h2 | ⟨rfl, h2⟩
      · exact .inl h2
      · exact .inr ⟨rfl, bl_trans t u v h1 h2⟩

theorem strLt_conn {s t : ByteArray} (h1 : strLt s t = false) (h2 : strLt t s = false) : s = t := toList_inj (bl_conn _ _ h1 h2)
theorem strLt_trans {s t u : ByteArray} (h1 : strLt s t = true) (h2 : strLt t u = true) : strLt s u = true := bl_trans _ _ _ h1 h2
theorem strLt_asymm {s t : ByteArray} (h : strLt s t = true) : strLt t s = false := by
  cases h' : strLt t s with
  | false => rfl
  | true =>
    have := strLt_trans h h'
    rw [strLt_self] at this
    cases this

def cmpS (s t : ByteArray) : Int := if strLt s t then -1 else if strLt t s then 1 else 0

theorem cmpS_gt (s t : ByteArray) : (!(strLt s t || strEq s t)) = strLt t s := by
  cases h1 : strLt s t with
  | true => rw [strLt_asymm h1]; rfl
  | false =>
    cases h2 : strLt t s with
    | true =>
      have : strEq s t = false := strEq_false.2 fun e => by subst e; rw [strLt_self] at h2; cases h2
      rw [this]; rfl
    | false => rw [strLt_conn h1 h2, strEq_refl]; rfl

def orL : List Int → Int
  | [] => 0
  | x :: t => if x = 0 then orL t else x

theorem orL_take {l : List Int} {i : Nat} (h : ∀ j, j < i → nth l j = 0) (hi : i < l.length) (hx : ¬ nth l i = 0) : orL l = nth l i := by
  induction l generalizing i with
  | nil => simp at hi
  | cons a t ih =>
    cases i with
    | zero => simp only [orL]; rw [if_neg]; rfl; exact hx
    | succ i =>
      have h0 : a = 0 := h 0 (by omega)
      simp only [orL]
      rw [if_pos h0]
      exact ih (fun j hj => h (j + 1) (by omega)) (by simpa using hi) hx

theorem orRound {l : List Int} {i : Nat} (h : ∀ j, j < i → nth l j = 0) (he : nth l i = 0) : ∀ j, j < i + 1 → nth l j = 0 := fun j hj => by
  by_cases hj' : j = i
  · subst hj'; exact he
  · exact h j (by omega)

theorem orL_none {l : List Int} (h : ∀ j, j < l.length → nth l j = 0) : orL l = 0 := by
  induction l with
  | nil => rfl
  | cons a t ih =>
    have h0 : a = 0 := h 0 (by simp)
    simp only [orL]
    rw [if_pos h0]
    exact ih fun j hj => h (j + 1) (by simpa using hj)

theorem cmpK_or (a b : Key) : orL [cmpS a.space b.space, cmpS a.name b.name] = cmpK a b := by
  unfold cmpK lessK cmpS
  simp only [orL]
  cases h1 : strLt a.space b.space with
  | true => simp
  | false =>
    cases h2 : strLt b.space a.space with
    | true =>
      have hne : strEq a.space b.space = false := strEq_false.2 fun e => by rw [e, strLt_self] at h2; cases h2
      have : ¬ a = b := fun e => by rw [e, strLt_self] at h2; cases h2
      simp [hne, this]
    | false =>
      have he := strLt_conn h1 h2
      simp only [he, strEq_refl]
      cases h3 : strLt a.name b.name with
      | true => simp
      | false =>
        cases h4 : strLt b.name a.name with
        | true =>
          have : ¬ a = b := fun e => by rw [e, strLt_self] at h4; cases h4
          simp [this]
        | false =>
          have : a = b := Key.ext' he (strLt_conn h3 h4)
          simp [this]

theorem lessK_irrefl (a : Key) : lessK a a = false := by simp [lessK, strLt_self]
theorem lessK_iff {a b : Key} : lessK a b = true ↔ strLt a.space b.space = true ∨ (a.space = b.space ∧ strLt a.name b.name = true) := by
  unfold lessK
  simp [strEq_iff]
theorem lessK_trans {a b c : Key} (h1 : lessK a b = true) (h2 : lessK b c = true) : lessK a c = true := by
  rw [lessK_iff] at *
  rcases h1 with h1 | ⟨e1, h1⟩
  · rcases h2 with h2 | ⟨e2, h2⟩
    · exact .inl (strLt_trans h1 h2)
    · exact .inl (e2 ▸ h1)
  · rcases h2 with h2 | ⟨e2, h2⟩
    · exact .inl (e1 ▸ h2)
    · exact .inr ⟨e1.trans e2, strLt_trans h1 h2⟩
theorem lessK_conn {a b : Key} (h1 : lessK a b = false) (h2 : lessK b a = false) : a = b := by
  rw [← Bool.not_eq_true, lessK_iff] at h1 h2
  have n1 : strLt a.space b.space = false := by cases h : strLt a.space b.space; rfl; exact (h1 (.inl h)).elim
  have n2 : strLt b.space a.space = false := by cases h : strLt b.space a.space; rfl; exact (h2 (.inl h)).elim
  have e := strLt_conn n1 n2
  have n3 : strLt a.name b.name = false := by cases h : strLt a.name b.name; rfl; exact (h1 (.inr ⟨e, h⟩)).elim
  have n4 : strLt b.name a.name = false := by cases h : strLt b.name a.name; rfl; exact (h2 (.inr ⟨e.symm, h⟩)).elim
  exact Key.ext' e (strLt_conn n3 n4)

theorem cmpK_neg (a b : Key) : decide (cmpK a b < 0) = lessK a b := by
  unfold cmpK
  cases h : lessK a b with
  | true => simp
  | false =>
    simp only [Bool.false_eq_true, if_false]
    split <;> simp


theorem swoK : Go.Sort.SWO (Go.Proofs.ltOf cmpK) := by
  have e : Go.Proofs.ltOf cmpK = lessK := by funext a b; exact cmpK_neg a b
  rw [e]
  refine ⟨lessK_irrefl, fun _ _ _ => lessK_trans, fun x y z h1 h2 => ?_⟩
  cases h3 : lessK x z with
  | false => rfl
  | true =>
    cases h4 : lessK y x with
    | true => have := lessK_trans h4 h3; rw [h2] at this; cases this
    | false => have := lessK_conn h1 h4; subst this; rw [h2] at h3; cases h3

theorem totK : ∀ x y : Key, Go.Proofs.ltOf cmpK x y = false → Go.Proofs.ltOf cmpK y x = false → x = y := fun x y h1 h2 => by
  have e : Go.Proofs.ltOf cmpK = lessK := by funext a b; exact cmpK_neg a b
  rw [e] at h1 h2
  exact lessK_conn h1 h2

theorem sort_insK (l : List Key) : compactL (l.mergeSort fun x y => !(Go.Proofs.ltOf cmpK) y x) = l.foldl (insL cmpK) [] := by
  have e : Go.Proofs.ltOf cmpK = lessK := by funext a b; exact cmpK_neg a b
  rw [e]
  exact sort_insert cmpK cmpK_neg lessK_irrefl (fun _ _ _ => lessK_trans) (fun _ _ => lessK_conn) l

theorem cmpK_bd (a b : Key) : -1 ≤ cmpK a b ∧ cmpK a b ≤ 1 := by
  unfold cmpK
  split
  · omega
  · split <;> omega
end Go.Proofs.YtkeialdhogfdjaaDoor
