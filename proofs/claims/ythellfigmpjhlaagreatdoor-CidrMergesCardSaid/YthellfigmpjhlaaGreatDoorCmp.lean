/- Addresses in order: plain laws. -/
import Derived.Test.YthellfigmpjhlaaGreatDoorBytes
namespace Go.Proofs.YthellfigmpjhlaaGreatDoor
open Go Go.RowKit
set_option linter.unusedVariables false
set_option linter.unusedSimpArgs false

def cmpL : List UInt8 → List UInt8 → Int
  | x :: t, y :: u => if x < y then -1 else if y < x then 1 else cmpL t u
  | _, _ => 0
def refIp (a b : Ip) : Int := if a.six = b.six then cmpL a.bytes b.bytes else if a.six then 1 else -1

theorem at_drop (x : Ip) (i : Nat) (hi : i < 16) : x.bytes.drop i = x.at i :: x.bytes.drop (i + 1) := by
  match i, hi with
  | 0, _ | 1, _ | 2, _ | 3, _ | 4, _ | 5, _ | 6, _ | 7, _ | 8, _ | 9, _ | 10, _ | 11, _ | 12, _ | 13, _ | 14, _ | 15, _ => rfl
  | n + 16, h => omega

section
variable {x y : Ip} {i : Nat}
theorem cmp_lt (h : cmpL x.bytes y.bytes = cmpL (x.bytes.drop i) (y.bytes.drop i)) (hi : i < 16) (hc : ((x.at i).toNat : Int) < ((y.at i).toNat : Int)) : -1 = cmpL x.bytes y.bytes := by
  rw [h, at_drop x i hi, at_drop y i hi, cmpL, if_pos (UInt8.lt_iff_toNat_lt.2 (by omega))]
theorem cmp_gt (h : cmpL x.bytes y.bytes = cmpL (x.bytes.drop i) (y.bytes.drop i)) (hi : i < 16) (hc : ((x.at i).toNat : Int) > ((y.at i).toNat : Int)) : 1 = cmpL x.bytes y.bytes := by
  rw [h, at_drop x i hi, at_drop y i hi, cmpL, if_neg (fun h => by have := UInt8.lt_iff_toNat_lt.1 h; omega), if_pos (UInt8.lt_iff_toNat_lt.2 (by omega))]
theorem cmp_next (h : cmpL x.bytes y.bytes = cmpL (x.bytes.drop i) (y.bytes.drop i)) (hi : i < 16) (h1 : ¬ ((x.at i).toNat : Int) < ((y.at i).toNat : Int)) (h2 : ¬ ((x.at i).toNat : Int) > ((y.at i).toNat : Int)) : cmpL x.bytes y.bytes = cmpL (x.bytes.drop (i + 1)) (y.bytes.drop (i + 1)) := by
  rw [h, at_drop x i hi, at_drop y i hi, cmpL, if_neg (fun h => by have := UInt8.lt_iff_toNat_lt.1 h; omega), if_neg (fun h => by have := UInt8.lt_iff_toNat_lt.1 h; omega)]
theorem cmp_end (h : cmpL x.bytes y.bytes = cmpL (x.bytes.drop i) (y.bytes.drop i)) (hi : ¬ (i : Int) < 16) : 0 = cmpL x.bytes y.bytes := by
  rw [h, List.drop_eq_nil_of_le (by rw [Ip.bytes_len]; omega)]
  rfl
end

theorem cmpL_self : ∀ l : List UInt8, cmpL l l = 0
  | [] => rfl
  | x :: t => by simp [cmpL, cmpL_self t, UInt8.lt_irrefl]
theorem cmpL_neg : ∀ l m : List UInt8, cmpL m l = - cmpL l m
  | [], [] => rfl
  | [], _ :: _ => rfl
  | _ :: _, [] => rfl
  | x :: t, y :: u => by
    unfold cmpL
    by_cases h1 : x < y
    · have h2 : ¬ y < x := fun h => by have := UInt8.lt_trans h1 h; exact UInt8.lt_irrefl x this
      simp [h1, h2]
    · by_cases h2 : y < x
      · simp [h1, h2]
      · simp [h1, h2, cmpL_neg t u]
theorem cmpL_bd : ∀ l m : List UInt8, cmpL l m = -1 ∨ cmpL l m = 0 ∨ cmpL l m = 1
  | [], [] => .inr (.inl rfl)
  | [], _ :: _ => .inr (.inl rfl)
  | _ :: _, [] => .inr (.inl rfl)
  | x :: t, y :: u => by
    unfold cmpL
    split
    · exact .inl rfl
    · split
      · exact .inr (.inr rfl)
      · exact cmpL_bd t u
theorem cmpL_trans : ∀ l m n : List UInt8, l.length = m.length → m.length = n.length → cmpL l m ≤ 0 → cmpL m n ≤ 0 → cmpL l n ≤ 0
  | [], [], [], _, _, _, _ => by simp [cmpL]
  | x :: t, y :: u, z :: v, h1, h2, a, b => by
    unfold cmpL at a b ⊢
    by_cases hxy : x < y
    · by_cases hyz : y < z
      · rw [if_pos (UInt8.lt_trans hxy hyz)]; omega
      · by_cases hzy : z < y
        · simp [hyz, hzy] at b
        · have : y = z := UInt8.le_antisymm (UInt8.not_lt.1 hzy) (UInt8.not_lt.1 hyz)
          subst this
          rw [if_pos hxy]; omega
    · by_cases hyx : y < x
      · simp [hxy, hyx] at a
      · have : x = y := UInt8.le_antisymm (UInt8.not_lt.1 hyx) (UInt8.not_lt.1 hxy)
        subst this
        simp [hxy] at a
        by_cases hyz : x < z
        · rw [if_pos hyz]; omega
        · by_cases hzy : z < x
          · simp [hyz, hzy] at b
          · simp [hyz, hzy] at b ⊢
            exact cmpL_trans t u v (by simpa using h1) (by simpa using h2) a b

theorem find_map {α β : Type} (f : α → β) (p : β → Bool) : ∀ l : List α, (l.map f).find? p = (l.find? (fun a => p (f a))).map f
  | [] => rfl
  | a :: t => by
    simp only [List.map_cons, List.find?_cons]
    cases p (f a)
    · exact find_map f p t
    · rfl

def firstNe (l m : List UInt8) : Option Nat := (List.range l.length).find? fun i => l.getD i 0 != m.getD i 0
theorem firstNe_cons (x y : UInt8) (t u : List UInt8) : firstNe (x :: t) (y :: u) = if x = y then (firstNe t u).map (· + 1) else some 0 := by
  unfold firstNe
  rw [List.length_cons, List.range_succ_eq_map, List.find?_cons]
  by_cases h : x = y
  · subst h
    simp only [List.getD_cons_zero, bne_self_eq_false, if_true]
    rw [find_map]
    simp [Nat.succ_eq_add_one, List.getD_cons_succ, Function.comp_def]
  · have : ((x :: t).getD 0 0 != (y :: u).getD 0 0) = true := by simpa using h
    rw [this, if_neg h]

theorem cmpL_first : ∀ l m : List UInt8, l.length = m.length → cmpL l m = match firstNe l m with | some i => if l.getD i 0 < m.getD i 0 then -1 else 1 | none => 0
  | [], [], _ => rfl
  | x :: t, y :: u, h => by
    rw [firstNe_cons]
    by_cases e : x = y
    · subst e
      rw [if_pos rfl, cmpL, if_neg (UInt8.lt_irrefl x), if_neg (UInt8.lt_irrefl x), cmpL_first t u (by simpa using h)]
      cases firstNe t u <;> simp
    · rw [if_neg e, cmpL]
      by_cases h1 : x < y
      · simp [h1]
      · have h2 : y < x := UInt8.lt_of_le_of_ne (UInt8.not_lt.1 h1) (fun e' => e e'.symm)
        simp [h1, h2]

theorem cmpBy_eq (l m : List UInt8) (h : l.length = m.length) : cmpBy l m = cmpL l m := by
  rw [cmpL_first l m h]
  unfold cmpBy Extern.BytealgCompare.cmp firstNe
  have hs1 : (⟨l.toArray⟩ : ByteArray).size = l.length := rfl
  have hs2 : (⟨m.toArray⟩ : ByteArray).size = m.length := rfl
  have hg : ∀ (k : List UInt8) (i : Nat), (⟨k.toArray⟩ : ByteArray)[i]! = k.getD i 0 := fun k i => by
    by_cases hi : i < k.length
    · rw [getElem!_pos (⟨k.toArray⟩ : ByteArray) i hi]
      show k.toArray[i] = _
      simp [List.getD_eq_getElem?_getD, hi]
    · rw [getElem!_neg (⟨k.toArray⟩ : ByteArray) i hi]
      simp [List.getD_eq_getElem?_getD, List.getElem?_eq_none (Nat.not_lt.1 hi)]
      rfl
  simp only [hs1, hs2, hg, ← h, Nat.min_self, Nat.lt_irrefl, if_false, gt_iff_lt]
  cases List.find? (fun i => l.getD i 0 != m.getD i 0) (List.range l.length) <;> rfl

theorem cmpIp_ref (a b : Ip) : (if a.six = b.six then cmpBy a.bytes b.bytes else if a.six then 1 else -1) = refIp a b := by
  unfold refIp
  rw [cmpBy_eq a.bytes b.bytes rfl]
theorem refIp_self (a : Ip) : refIp a a = 0 := by unfold refIp; rw [if_pos rfl, cmpL_self]
theorem refIp_neg (a b : Ip) : refIp b a = - refIp a b := by
  unfold refIp
  cases ha : a.six <;> cases hb : b.six <;> simp [cmpL_neg a.bytes b.bytes]
theorem refIp_bd (a b : Ip) : -1 ≤ refIp a b ∧ refIp a b ≤ 1 := by
  unfold refIp
  have := cmpL_bd a.bytes b.bytes
  split
  · omega
  · split <;> omega
theorem refIp_trans (a b c : Ip) (h1 : refIp a b ≤ 0) (h2 : refIp b c ≤ 0) : refIp a c ≤ 0 := by
  unfold refIp at *
  have := cmpL_trans a.bytes b.bytes c.bytes rfl rfl
  cases ha : a.six <;> cases hb : b.six <;> cases hc : c.six <;> simp_all

/-! ### The longest row of groups of noughts -/
def nzStep (x : Ip) (i : Nat) (s : Int × Int × Int) : Int × Int × Int :=
  let r := if atIp x i = 0 then s.2.2 + 1 else 0
  if r > s.2.1 then ((i : Int) + 1 - r, r, r) else (s.1, s.2.1, r)
def nz (x : Ip) : Nat → Int × Int × Int
  | 0 => (0, 0, 0)
  | i + 1 => nzStep x i (nz x i)
def NzI (x : Ip) (i : Nat) (f m r : Int) : Prop := (f, m, r) = nz x i ∧ 0 ≤ r ∧ r ≤ i ∧ 0 ≤ m ∧ m ≤ i ∧ 0 ≤ f ∧ f + m ≤ i
theorem nz_round {x : Ip} {i : Nat} {f m r f' m' r' : Int} (h : NzI x i f m r) (he : (f', m', r') = nzStep x i (f, m, r)) : NzI x (i + 1) f' m' r' := by
  obtain ⟨h0, h1, h2, h3, h4, h5, h6⟩ := h
  refine ⟨by rw [he, h0]; rfl, ?_⟩
  unfold nzStep at he
  simp only at he
  split at he <;> split at he <;> simp only [Prod.mk.injEq] at he <;> omega

theorem nz_all {x : Ip} {i : Nat} {f m r f' m' r' : Int} (h : NzI x i f m r) (hi : i + 1 ≤ 8) (he : (f', m', r') = nzStep x i (f, m, r)) : i + 1 ≤ 8 ∧ NzI x (i + 1) f' m' r' ∧ 0 ≤ r' ∧ r' ≤ (i + 1 : Nat) ∧ 0 ≤ m' ∧ m' ≤ (i + 1 : Nat) ∧ 0 ≤ f' ∧ f' + m' ≤ (i + 1 : Nat) :=
  have hz := nz_round h he
  ⟨hi, hz, hz.2⟩
end Go.Proofs.YthellfigmpjhlaaGreatDoor
