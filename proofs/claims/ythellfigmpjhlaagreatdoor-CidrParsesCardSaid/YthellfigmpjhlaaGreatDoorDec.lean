/- Numbers' texts to the base 10, read and written. -/
import Derived.Test.YthellfigmpjhlaaGreatDoorPortsP
import Derived.Lib.AtoiTie
set_option linter.unusedVariables false
set_option linter.unusedSimpArgs false
namespace Go.Proofs.YthellfigmpjhlaaGreatDoor
open Go

def digB (c : UInt8) : Prop := 48 ≤ c.toNat ∧ c.toNat ≤ 57
def vF (a : Nat) (l : List UInt8) : Nat := l.foldl (fun a c => a * 10 + (c.toNat - 48)) a
def vD (l : List UInt8) : Nat := vF 0 l
theorem vF_cons (a : Nat) (c : UInt8) (l : List UInt8) : vF a (c :: l) = vF (a * 10 + (c.toNat - 48)) l := by unfold vF; rw [List.foldl_cons]
theorem vF_nil (a : Nat) : vF a [] = a := by unfold vF; rw [List.foldl_nil]
theorem vF_app (a : Nat) (l m : List UInt8) : vF a (l ++ m) = vF (vF a l) m := by unfold vF; rw [List.foldl_append]
theorem vF_pow (l : List UInt8) : ∀ a : Nat, vF a l = a * 10 ^ l.length + vF 0 l := by
  induction l with
  | nil => intro a; rw [vF_nil, vF_nil]; simp
  | cons c l ih =>
    intro a
    rw [vF_cons, vF_cons, ih (a * 10 + (c.toNat - 48)), ih (0 * 10 + (c.toNat - 48)), List.length_cons, Nat.pow_succ]
    generalize 10 ^ l.length = p
    generalize vF 0 l = v
    generalize c.toNat - 48 = d
    rw [Nat.add_mul, Nat.mul_assoc, Nat.mul_comm 10 p, Nat.zero_mul, Nat.zero_add, Nat.add_assoc]
theorem vD_cons (c : UInt8) (l : List UInt8) : vD (c :: l) = (c.toNat - 48) * 10 ^ l.length + vD l := by
  unfold vD
  rw [vF_cons, vF_pow, Nat.zero_mul, Nat.zero_add]
theorem vD_snoc (l : List UInt8) (c : UInt8) : vD (l ++ [c]) = vD l * 10 + (c.toNat - 48) := by unfold vD; rw [vF_app, vF_cons, vF_nil]
theorem vD_lt : ∀ (l : List UInt8), (∀ c ∈ l, digB c) → vD l < 10 ^ l.length
  | [], _ => by decide
  | c :: l, h => by
    have h1 := vD_lt l fun x hx => h x (List.mem_cons_of_mem _ hx)
    have h2 := h c List.mem_cons_self
    unfold digB at h2
    rw [vD_cons, List.length_cons, Nat.pow_succ]
    have h3 : (c.toNat - 48) * 10 ^ l.length ≤ 9 * 10 ^ l.length := Nat.mul_le_mul_right _ (by omega)
    omega
theorem dig_nat {d : Nat} (h : d < 10) : (UInt8.ofNat (48 + d)).toNat = 48 + d := by simp; omega
theorem dd_lo {n : Nat} (h : n < 10) : Lib.decDigits n = [UInt8.ofNat (48 + n)] := by rw [Lib.decDigits, dif_pos h]
theorem dd_hi {n : Nat} (h : ¬ n < 10) : Lib.decDigits n = Lib.decDigits (n / 10) ++ [UInt8.ofNat (48 + n % 10)] := by rw [Lib.decDigits, dif_neg h]
theorem dd_all : ∀ (k n : Nat), n < k → (∀ c ∈ Lib.decDigits n, digB c) ∧ vD (Lib.decDigits n) = n ∧ Lib.decDigits n ≠ [] ∧ (0 < n → (Lib.decDigits n).headD 48 ≠ 48)
  | 0, _, h => absurd h (Nat.not_lt_zero _)
  | k + 1, n, h => by
    by_cases h1 : n < 10
    · rw [dd_lo h1]
      refine ⟨fun c hc => ?_, ?_, by simp, fun h0 => ?_⟩
      · rw [List.mem_singleton.1 hc]; unfold digB; rw [dig_nat h1]; omega
      · rw [vD_cons, dig_nat h1]; simp [vD, vF_nil]
      · show UInt8.ofNat (48 + n) ≠ 48
        intro e
        have := congrArg UInt8.toNat e
        rw [dig_nat h1] at this
        have h48 : (48 : UInt8).toNat = 48 := rfl
        omega
    · obtain ⟨a, b, c, d⟩ := dd_all k (n / 10) (by omega)
      rw [dd_hi h1]
      refine ⟨fun x hx => ?_, ?_, by simp, fun h0 => ?_⟩
      · rcases List.mem_append.1 hx with hx | hx
        · exact a x hx
        · rw [List.mem_singleton.1 hx]; unfold digB; rw [dig_nat (by omega)]; omega
      · rw [vD_snoc, b, dig_nat (by omega)]; omega
      · have := d (by omega)
        obtain ⟨x, t, e⟩ := List.exists_cons_of_ne_nil c
        rw [e] at this ⊢
        exact this
theorem dd_dig {n : Nat} {c : UInt8} (h : c ∈ Lib.decDigits n) : digB c := (dd_all (n + 1) n (by omega)).1 c h
theorem dd_val (n : Nat) : vD (Lib.decDigits n) = n := (dd_all (n + 1) n (by omega)).2.1
theorem dd_ne (n : Nat) : Lib.decDigits n ≠ [] := (dd_all (n + 1) n (by omega)).2.2.1
theorem dd_head {n : Nat} (h : 0 < n) : (Lib.decDigits n).headD 48 ≠ 48 := (dd_all (n + 1) n (by omega)).2.2.2 h
theorem dd_len : ∀ (k n : Nat), n < 10 ^ (k + 1) → (Lib.decDigits n).length ≤ k + 1
  | 0, n, h => by rw [dd_lo (by simpa using h)]; simp
  | k + 1, n, h => by
    by_cases h1 : n < 10
    · rw [dd_lo h1]; simp
    · rw [dd_hi h1, List.length_append, List.length_singleton]
      have := dd_len k (n / 10) (by rw [Nat.pow_succ] at h; omega)
      omega
/-- A numeral without a nought ahead of it is the numeral of its worth. -/
theorem dd_of : ∀ (k : Nat) (l : List UInt8), l.length ≤ k → l ≠ [] → (∀ c ∈ l, digB c) → (l.headD 48 ≠ 48 ∨ l.length = 1) → Lib.decDigits (vD l) = l
  | 0, l, hk, hn, _, _ => absurd (List.eq_nil_of_length_eq_zero (by omega)) hn
  | k + 1, l, hk, hn, hd, hh => by
    obtain ⟨m, c, rfl⟩ : ∃ m c, l = m ++ [c] := ⟨l.dropLast, l.getLast hn, (List.dropLast_concat_getLast hn).symm⟩
    have hc := hd c (by simp)
    unfold digB at hc
    have ec : UInt8.ofNat (48 + (c.toNat - 48)) = c := by rw [show 48 + (c.toNat - 48) = c.toNat by omega]; simp
    by_cases hm : m = []
    · subst hm
      rw [List.nil_append, vD_cons]
      have : (c.toNat - 48) * 10 ^ ([] : List UInt8).length + vD [] = c.toNat - 48 := by simp [vD, vF_nil]
      rw [this, dd_lo (by omega), ec]
    · have h48 : m.headD 48 ≠ 48 := by
        obtain ⟨x, t, rfl⟩ := List.exists_cons_of_ne_nil hm
        rcases hh with hh | hh
        · exact hh
        · simp at hh
      have ih := dd_of k m (by simp at hk; omega) hm (fun x hx => hd x (by simp [hx])) (.inl h48)
      have hpos : 0 < vD m := by
        obtain ⟨x, t, rfl⟩ := List.exists_cons_of_ne_nil hm
        have hx := hd x (by simp)
        unfold digB at hx
        have hx48 : x.toNat ≠ 48 := fun e => h48 (UInt8.toNat_inj.1 e)
        rw [vD_cons]
        have : 0 < (x.toNat - 48) * 10 ^ t.length := Nat.mul_pos (by omega) (Nat.pow_pos (by decide))
        omega
      rw [vD_snoc, dd_hi (by omega), show (vD m * 10 + (c.toNat - 48)) / 10 = vD m by omega, show (vD m * 10 + (c.toNat - 48)) % 10 = c.toNat - 48 by omega, ih, ec]

theorem pu_dig : ∀ (l : List UInt8) (a k : Nat), (∀ c ∈ l, digB c) → a < 10 ^ k → l.length + k ≤ 18 → Lib.parseUint10 a l = .ok (vF a l)
  | [], _, _, _, _, _ => rfl
  | c :: r, a, k, hd, ha, hl => by
    have hc := hd c List.mem_cons_self
    have hp : 10 ^ k ≤ 10 ^ 17 := Nat.pow_le_pow_right (by decide) (by simp at hl; omega)
    have e17 : (10 : Nat) ^ 17 = 100000000000000000 := by decide
    unfold digB at hc
    unfold Lib.parseUint10
    rw [if_pos hc, if_neg (by omega), if_neg (by omega)]
    exact pu_dig r _ (k + 1) (fun x hx => hd x (List.mem_cons_of_mem _ hx)) (by rw [Nat.pow_succ]; omega) (by simp at hl; omega)
theorem atoi_dig {l : List UInt8} (hn : l ≠ []) (hd : ∀ c ∈ l, digB c) (hl : l.length ≤ 18) : Lib.atoiAll l = .ok (vD l : Int) := by
  obtain ⟨c, r, rfl⟩ := List.exists_cons_of_ne_nil hn
  have hc := hd c List.mem_cons_self
  unfold digB at hc
  have hv := vD_lt (c :: r) hd
  have hp : 10 ^ (c :: r).length ≤ 10 ^ 18 := Nat.pow_le_pow_right (by decide) hl
  have e18 : (10 : Nat) ^ 18 = 1000000000000000000 := by decide
  rw [Lib.atoiAll_plain c r (by omega) (by omega), Lib.parseMag, if_neg (by simp), pu_dig (c :: r) 0 0 hd (by decide) (by omega)]
  unfold Lib.signless
  show (if _ then _ else _) = _
  rw [if_neg (by show ¬ _ ≤ vD (c :: r); omega)]
  rfl
theorem dec_dig {l : List UInt8} (hd : ∀ c ∈ l, digB c) (hl : l.length ≤ 18) : ∀ x : ByteArray, x.data.toList = l → (l ≠ [] → atoiOk x = true ∧ atoiN x = (vD l : Int)) ∧ (l = [] → atoiOk x = false) := by
  intro x hx
  unfold atoiOk atoiN
  rw [hx]
  refine ⟨fun hn => ?_, fun hn => ?_⟩
  · rw [atoi_dig hn hd hl]; exact ⟨rfl, rfl⟩
  · subst hn; rfl
theorem itoa_nat (n : Nat) : Lib.itoa (n : Int) = Lib.decDigits n := by rw [Lib.itoa, if_neg (by omega), Int.toNat_natCast]
theorem ba_eq {x : ByteArray} {l : List UInt8} (h : (⟨l.toArray⟩ : ByteArray) = x) : x.data.toList = l := by rw [← h]
theorem ba_of {x : ByteArray} {l : List UInt8} (h : x.data.toList = l) : (⟨l.toArray⟩ : ByteArray) = x := ByteArray.ext (by rw [← h])
/-- What 'number' takes is a numeral of its own. -/
theorem num_shape {x : ByteArray} (h : ¬ numP x = 0) : ∃ n : Nat, numP x = (n : Int) ∧ 1 ≤ n ∧ n ≤ 65535 ∧ x.data.toList = Lib.decDigits n := by
  unfold numP at h ⊢
  split at h
  · rename_i hc
    obtain ⟨h1, h2, h3, h4⟩ := hc
    obtain ⟨n, hn⟩ := Int.eq_ofNat_of_zero_le (show 0 ≤ atoiN x by omega)
    rw [if_pos ⟨h1, h2, h3, h4⟩]
    refine ⟨n, hn, by omega, by omega, ?_⟩
    rw [hn, itoa_nat] at h4
    exact ba_eq h4
  · exact absurd rfl h
/-- Figures are taken where they begin with none that is nought, and are worth from 1 to 65535. -/
theorem num_dig {x : ByteArray} {l : List UInt8} (hx : x.data.toList = l) (hd : ∀ c ∈ l, digB c) (hl : l.length ≤ 18) : numP x = if l ≠ [] ∧ l.headD 48 ≠ 48 ∧ vD l ≤ 65535 then (vD l : Int) else 0 := by
  obtain ⟨d1, d2⟩ := dec_dig hd hl x hx
  by_cases h : l ≠ [] ∧ l.headD 48 ≠ 48 ∧ vD l ≤ 65535
  · obtain ⟨h1, h2, h3⟩ := h
    have e := dd_of l.length l (Nat.le_refl _) h1 hd (.inl h2)
    have hp : 0 < vD l := by
      rcases Nat.eq_zero_or_pos (vD l) with h0 | h0
      · rw [h0] at e
        rw [← e, dd_lo (by decide)] at h2
        exact absurd rfl h2
      · exact h0
    rw [if_pos ⟨h1, h2, h3⟩, ← numP_yes (d1 h1).1 (by rw [(d1 h1).2]; omega) (by rw [(d1 h1).2, itoa_nat, e]; exact ba_of hx), (d1 h1).2]
  · rw [if_neg h]
    by_cases h0 : numP x = 0
    · exact h0
    · exfalso
      obtain ⟨n, e1, e2, e3, e4⟩ := num_shape h0
      rw [hx] at e4
      refine h ⟨by rw [e4]; exact dd_ne n, by rw [e4]; exact dd_head e2, by rw [e4, dd_val]; exact e3⟩
end Go.Proofs.YthellfigmpjhlaaGreatDoor
