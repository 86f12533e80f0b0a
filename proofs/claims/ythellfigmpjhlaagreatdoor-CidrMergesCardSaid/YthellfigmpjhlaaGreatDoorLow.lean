/- What strings.ToLower makes of a text holds a figure to the base 16 only where the text does. -/
import Derived.Shelf.Strings.CaseAny
import Derived.Lib.LaidCase
import Derived.Test.YthellfigmpjhlaaGreatDoorAddrP
set_option linter.unusedVariables false
set_option linter.unusedSimpArgs false
namespace Go.Proofs.YthellfigmpjhlaaGreatDoor
open Go

/-- Under a row of Go's table no rune beyond ASCII comes below 103. -/
def rowHigh (x : Lib.CaseRow) : Bool :=
  decide (x.2.1 < 128) || (decide (1114111 < x.delta 1) && decide (128 ≤ x.1)) || decide (102 < (x.1 : Int) + x.delta 1)
set_option maxRecDepth 100000 in
theorem rowsHigh : Lib.caseT.all rowHigh = true := by decide +kernel
theorem caseA_high (i : Nat) (hi : i < Lib.caseA.size) : rowHigh (Lib.caseA.getD i (0, 0, 0, 0, 0)) = true := by
  have hm : Lib.caseA.getD i (0, 0, 0, 0, 0) ∈ Lib.caseT := by
    unfold Lib.caseA at hi ⊢
    simp only [List.size_toArray] at hi
    simp [Array.getD, hi]
  exact List.all_eq_true.1 rowsHigh _ hm
theorem convert_high {x : Lib.CaseRow} (hx : rowHigh x = true) {r : Int} (h : 128 ≤ r) (hlo : (x.1 : Int) ≤ r) (hhi : r ≤ (x.2.1 : Int)) : 102 < Lib.convertR 1 r x := by
  simp only [rowHigh, Bool.or_eq_true, Bool.and_eq_true, decide_eq_true_iff] at hx
  unfold Lib.convertR
  split <;> omega
theorem lowerU_high {r : Int} (h : 128 ≤ r) : 102 < Lib.toLowerU r := by
  unfold Lib.toLowerU
  rw [if_neg (by omega)]
  unfold Lib.toR Lib.lookupGo
  cases hi : Lib.lookupIdx Lib.caseA r (Lib.caseA.size + 1) 0 Lib.caseA.size with
  | none => show 102 < r; omega
  | some i =>
    obtain ⟨hil, hlo, hhi⟩ := Lib.lookupIdx_some Lib.caseA r _ _ _ i hi
    exact convert_high (caseA_high i hil) h hlo hhi
theorem u8_small {n : Nat} (h : n < 256) : (n.toUInt8).toNat = n := by
  show n % 256 = n
  omega
theorem enc_high {z : Int} (h : 102 < z) : ∃ b t, Lib.encodeRune z = b :: t ∧ 102 < b.toNat := by
  unfold Lib.encodeRune Lib.encodeRuneZ
  repeat' split
  all_goals (refine ⟨_, _, rfl, ?_⟩)
  all_goals (first | (rw [u8_small (by omega)]; omega) | decide)
theorem idx_high {b : UInt8} (h : 102 < b.toNat) : Lib.indexByte hexS.data.toList b < 0 := by
  have hA : ∀ n : Fin 256, 102 < n.val → Lib.indexByte hexS.data.toList (UInt8.ofNat n.val) < 0 := by decide +kernel
  have := hA ⟨b.toNat, b.toNat_lt⟩ h
  simpa using this
theorem grp_high {b : UInt8} (h : 102 < b.toNat) (l : List UInt8) (n : Int) : grpGo (b :: l) n = -1 := by
  unfold grpGo; rw [if_pos (idx_high h)]
theorem lowerB_high {b : UInt8} (h : ¬ b.toNat < 128) : 102 < (Lib.lowerB b).toNat := by
  have hA : ∀ n : Fin 256, ¬ n.val < 128 → 102 < (Lib.lowerB (UInt8.ofNat n.val)).toNat := by decide +kernel
  have := hA ⟨b.toNat, b.toNat_lt⟩ h
  simpa using this
theorem dec_high {b : UInt8} (h : ¬ b.toNat < 128) (t : List UInt8) : 128 ≤ (Lib.decodeL (b :: t)).1 := by
  rw [Lib.decodeL_N]
  rcases Lib.decodeN_shape (b :: t).length ((b :: t).getD 0 0).toNat ((b :: t).getD 1 0).toNat ((b :: t).getD 2 0).toNat ((b :: t).getD 3 0).toNat with ⟨c, e⟩ | ⟨_, _, _, _, e⟩ | ⟨_, _, _, _, _, _, e⟩ | ⟨_, _, _, _, _, _, _, e⟩ | e
  · exact absurd c h
  all_goals (rw [e]; dsimp only; omega)
/-- A group of the text that Go makes of s is the group of the text that has ASCII's letters made small. -/
theorem grp_low : ∀ (l : List UInt8) (n : Int), grpGo (Lib.toLowerD l) n = grpGo (Lib.toLowerA l) n
  | [], n => rfl
  | b :: t, n => by
    have ih := grp_low t
    have ea : Lib.toLowerA (b :: t) = Lib.lowerB b :: Lib.toLowerA t := rfl
    rw [Lib.toLowerD, Lib.mapD_step Lib.toLowerU (b :: t) (by simp)]
    by_cases h : b.toNat < 128
    · rw [Lib.decodeL_ascii b t h]
      dsimp only
      rw [if_pos (Lib.toLowerU_range b.toNat (by omega)).1, Lib.lower_byte ⟨b.toNat, h⟩, List.drop_succ_cons, List.drop_zero, ea]
      rw [show UInt8.ofNat b.toNat = b by simp]
      show grpGo (Lib.lowerB b :: Lib.toLowerD t) n = _
      unfold grpGo
      rw [ih]
    · have h1 := dec_high h t
      have h2 : 102 < Lib.toLowerU ((Lib.decodeL (b :: t)).1 : Int) := lowerU_high (by omega)
      obtain ⟨c, u, hc, hb⟩ := enc_high h2
      rw [if_pos (by omega), hc, ea, List.cons_append, grp_high hb, grp_high (lowerB_high h)]

theorem encode_le4 (z : Int) : (Lib.encodeRune z).length ≤ 4 := by
  unfold Lib.encodeRune Lib.encodeRuneZ
  rw [List.length_map]
  repeat' split
  all_goals simp
theorem width_one (l : List UInt8) (h : (Lib.decodeL l).2 = 1) : (Lib.decodeL l).1 < 128 ∨ (Lib.decodeL l).1 = 65533 := by
  rw [Lib.decodeL_N] at h ⊢
  rcases Lib.decodeN_shape l.length (l.getD 0 0).toNat (l.getD 1 0).toNat (l.getD 2 0).toNat (l.getD 3 0).toNat with ⟨c, e⟩ | ⟨_, _, _, _, e⟩ | ⟨_, _, _, _, _, _, e⟩ | ⟨_, _, _, _, _, _, _, e⟩ | e
  all_goals (rw [e] at h ⊢; dsimp only at h ⊢)
  · exact .inl c
  · omega
  · omega
  · omega
  · exact .inr rfl
theorem lower_fffd : (Lib.encodeRune (Lib.toLowerU ((65533 : Nat) : Int))).length = 3 := by kernel_rfl
theorem lower_one (r : Nat) (hr : r < 128 ∨ r = 65533) : (Lib.encodeRune (Lib.toLowerU r)).length ≤ 3 := by
  rcases hr with h | rfl
  · rw [Lib.lower_byte ⟨r, h⟩]; simp
  · rw [lower_fffd]; omega
theorem low_len3 : ∀ (n : Nat) (l : List UInt8), l.length ≤ n → (Lib.toLowerD l).length ≤ 3 * l.length
  | 0, l, hn => by
    have : l = [] := List.eq_nil_of_length_eq_zero (by omega)
    subst this
    simp [Lib.toLowerD, Lib.mapD_nil]
  | n + 1, l, hn => by
    by_cases hne : l = []
    · subst hne
      simp [Lib.toLowerD, Lib.mapD_nil]
    · have hw := Lib.decodeL_width l
      have hle := Lib.decodeL_le l hne
      have ih := low_len3 n (l.drop (Lib.decodeL l).2) (by rw [List.length_drop]; omega)
      rw [List.length_drop] at ih
      rw [Lib.toLowerD, Lib.mapD_step Lib.toLowerU l hne, List.length_append]
      unfold Lib.toLowerD at ih
      have hh : (if 0 ≤ Lib.toLowerU (Lib.decodeL l).1 then Lib.encodeRune (Lib.toLowerU (Lib.decodeL l).1) else []).length ≤ 3 * (Lib.decodeL l).2 := by
        split
        · by_cases hk : (Lib.decodeL l).2 = 1
          · have := lower_one _ (width_one l hk)
            omega
          · have := encode_le4 (Lib.toLowerU (Lib.decodeL l).1)
            omega
        · simp
      omega

/-- strings.ToLower's text, whatever the text is. -/
def lowD (s : ByteArray) : ByteArray := ⟨(Lib.toLowerD s.data.toList).toArray⟩
theorem lowD_len (s : ByteArray) : (lowD s).data.toList.length ≤ 3 * s.size := by
  have h := low_len3 _ s.data.toList (Nat.le_refl _)
  have hll : s.data.toList.length = s.size := Array.length_toList
  show (Lib.toLowerD s.data.toList).toArray.toList.length ≤ _
  rw [List.toList_toArray]
  omega
theorem lowD_grp (s : ByteArray) : grpGo (lowD s).data.toList 0 = grpGo (lowS s).data.toList 0 := grp_low _ _
theorem grpD_yes {s : ByteArray} (h1 : ¬ s = ⟨#[]⟩) (h2 : ¬ (s.size : Int) > 4) : grpP s = grpGo (lowD s).data.toList 0 := (grpP_yes h1 h2).trans (lowD_grp s).symm
theorem p16D (i : Nat) (h : i < 12) : (16 : Int) ^ i ≤ 17592186044416 ∧ (16 : Int) ^ (i + 1) = 16 ^ i * 16 := by
  refine ⟨?_, Int.pow_succ ..⟩
  match i, h with
  | 0, _ | 1, _ | 2, _ | 3, _ | 4, _ | 5, _ | 6, _ | 7, _ | 8, _ | 9, _ | 10, _ | 11, _ => decide
  | n + 12, h => omega
end Go.Proofs.YthellfigmpjhlaaGreatDoor
