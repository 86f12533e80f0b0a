/- The reference's reading of a point's text. -/
import Derived.Test.YthellfigmpjhlaaGreatDoorDec
import Derived.Test.YthellfigmpjhlaaGreatDoorFmt
set_option linter.unusedVariables false
set_option linter.unusedSimpArgs false
namespace Go.Proofs.YthellfigmpjhlaaGreatDoor
open Go

theorem bt_at {s : ByteArray} {i : Nat} (hi : i < s.data.toList.length) : btB s (i : Int) = s.data.toList[i] := by
  unfold btB
  rw [Int.toNat_natCast, Array.getElem?_eq_getElem (by simpa using hi), Option.getD_some]
  simp
theorem len_size (s : ByteArray) : s.data.toList.length = s.size := Array.length_toList
/-- The last t bytes. -/
def lastT (s : ByteArray) (t : Nat) : List UInt8 := s.data.toList.drop (s.size - t)
def nR (s : ByteArray) (t : Nat) : Int := (vD (lastT s t) : Int)
def tenP (t : Nat) : Int := ((10 ^ t : Nat) : Int)
theorem lastT_len {s : ByteArray} {t : Nat} (h : t ≤ s.size) : (lastT s t).length = t := by
  unfold lastT; rw [List.length_drop, len_size]; omega
theorem lastT_next {s : ByteArray} {t : Nat} (h : t < s.size) : lastT s (t + 1) = btB s ((s.size : Int) - 1 - (t : Int)) :: lastT s t := by
  unfold lastT
  have hi : s.size - (t + 1) < s.data.toList.length := by rw [len_size]; omega
  rw [List.drop_eq_getElem_cons hi, show (s.size : Int) - 1 - (t : Int) = ((s.size - (t + 1) : Nat) : Int) by omega, bt_at hi, show s.size - (t + 1) + 1 = s.size - t by omega]
def DigT (s : ByteArray) (t : Nat) : Prop := ∀ c ∈ lastT s t, digB c
theorem digB_of {c : UInt8} (h1 : (48 : Int) ≤ (c.toNat : Int)) (h2 : (c.toNat : Int) ≤ 57) : digB c := by unfold digB; omega
theorem digB_not {c : UInt8} (h : ¬ (48 : Int) ≤ (c.toNat : Int) ∨ ¬ (c.toNat : Int) ≤ 57) : ¬ digB c := by unfold digB; omega
theorem digT_0 (s : ByteArray) : DigT s 0 := fun c hc => by
  unfold lastT at hc
  rw [Nat.sub_zero, List.drop_of_length_le (by rw [len_size]; exact Nat.le_refl _)] at hc
  cases hc
theorem nR_0 (s : ByteArray) : nR s 0 = 0 := by
  unfold nR lastT
  rw [Nat.sub_zero, List.drop_of_length_le (by rw [len_size]; exact Nat.le_refl _)]
  simp [vD, vF_nil]
theorem digT_next {s : ByteArray} {t : Nat} (h : t < s.size) (hd : DigT s t) (hc : digB (btB s ((s.size : Int) - 1 - (t : Int)))) : DigT s (t + 1) := fun c hm => by
  rw [lastT_next h] at hm
  rcases List.mem_cons.1 hm with rfl | hm
  · exact hc
  · exact hd c hm
theorem nR_next {s : ByteArray} {t : Nat} (h : t < s.size) (hc : digB (btB s ((s.size : Int) - 1 - (t : Int)))) : nR s t + (((btB s ((s.size : Int) - 1 - (t : Int))).toNat : Int) - 48) * tenP t = nR s (t + 1) := by
  unfold nR tenP
  unfold digB at hc
  rw [lastT_next h, vD_cons, lastT_len (by omega), Int.natCast_add, Int.natCast_mul, Int.natCast_sub (by omega), Int.add_comm]
  rfl
theorem tenP_next (t : Nat) : tenP t * 10 = tenP (t + 1) := by unfold tenP; rw [Nat.pow_succ]; omega
theorem tenP_bd {t : Nat} (h : t ≤ 6) : 1 ≤ tenP t ∧ tenP t ≤ 1000000 := by
  unfold tenP
  have h1 : (10 : Nat) ^ t ≤ 10 ^ 6 := Nat.pow_le_pow_right (by decide) h
  have h2 : 0 < (10 : Nat) ^ t := Nat.pow_pos (by decide)
  omega
theorem nR_bd {s : ByteArray} {t : Nat} (h : t ≤ 6) (ht : t ≤ s.size) (hd : DigT s t) : 0 ≤ nR s t ∧ nR s t ≤ 1000000 := by
  have h1 := vD_lt _ hd
  rw [lastT_len ht] at h1
  have h2 : (10 : Nat) ^ t ≤ 10 ^ 6 := Nat.pow_le_pow_right (by decide) h
  unfold nR
  omega
theorem ten_mul {x : Int} {t : Nat} (h0 : 0 ≤ x) (h9 : x ≤ 9) (h : t ≤ 6) : 0 ≤ x * tenP t ∧ x * tenP t ≤ 9000000 := by
  have hb := tenP_bd h
  exact ⟨Int.mul_nonneg h0 (by omega), Int.le_trans (Int.mul_le_mul h9 hb.2 (by omega) (by decide)) (by decide)⟩

/-! ### where the last colon is -/
theorem last_get {s : ByteArray} {j : Nat} (h : j < s.size) : (s.data[j]!) = s.data.toList[j]'(by rw [len_size]; exact h) := by
  have : j < s.data.size := h
  rw [getElem!_pos s.data j this]
  simp
theorem last_mem {s : ByteArray} {t j : Nat} (h1 : s.size - t ≤ j) (h2 : j < s.size) : s.data.toList[j]'(by rw [len_size]; exact h2) ∈ lastT s t := by
  unfold lastT
  rw [List.mem_iff_getElem]
  refine ⟨j - (s.size - t), by rw [List.length_drop, len_size]; omega, ?_⟩
  rw [List.getElem_drop]
  congr 1
  omega
theorem dig_ne {c : UInt8} (h : digB c) : c ≠ 58 := fun e => by subst e; exact absurd h (by unfold digB; decide)
/-- Behind the last colon there are no fewer than the figures at the end. -/
theorem last_le {s : ByteArray} {t : Nat} (ht : t ≤ s.size) (hd : DigT s t) : lastC s = -1 ∨ (∃ i : Nat, lastC s = (i : Int) ∧ i + t < s.size ∧ s.data.toList[i]? = some 58 ∧ ∀ j, i < j → (h : j < s.size) → s.data.toList[j]'(by rw [len_size]; exact h) ≠ 58) := by
  unfold lastC Lib.lastIndexByte
  rcases Lib.lastIdx_spec s 58 s.size with ⟨h, _⟩ | ⟨i, hi, h, hc, hn⟩
  · exact .inl h
  · refine .inr ⟨i, h, ?_, ?_, fun j h1 h2 e => ?_⟩
    · apply Classical.byContradiction
      intro hlt
      have h1 := hd _ (last_mem (t := t) (j := i) (by omega) hi)
      rw [last_get hi] at hc
      exact dig_ne h1 (UInt8.toNat_inj.1 (by show _ = 58; omega))
    · rw [last_get hi] at hc
      rw [List.getElem?_eq_getElem (by rw [len_size]; exact hi)]
      exact congrArg some (UInt8.toNat_inj.1 (by show _ = 58; omega))
    · have h3 := hn j h1 h2
      rw [last_get h2, e] at h3
      exact h3 rfl
theorem pt_colon {s : ByteArray} {t : Nat} (ht : t ≤ s.size) (hd : DigT s t) (h : ¬ (s.size : Int) - 1 - (t : Int) < 0) (hc : btB s ((s.size : Int) - 1 - (t : Int)) = 58) :
    lastC s = (s.size : Int) - 1 - (t : Int) ∧ (ptNum s).data.toList = lastT s t ∧ ptHead s = s.extract 0 ((s.size : Int) - 1 - (t : Int)).toNat := by
  have e : (s.size : Int) - 1 - (t : Int) = ((s.size - 1 - t : Nat) : Int) := by omega
  have hk : s.size - 1 - t < s.data.toList.length := by rw [len_size]; omega
  rw [e, bt_at hk] at hc
  have hl : lastC s = (s.size : Int) - 1 - (t : Int) := by
    rcases last_le ht hd with h1 | ⟨i, h1, h2, _, h4⟩
    · exfalso
      unfold lastC Lib.lastIndexByte at h1
      rcases Lib.lastIdx_spec s 58 s.size with ⟨_, h5⟩ | ⟨i, _, h5, _⟩
      · have := h5 (s.size - 1 - t) (by omega)
        rw [last_get (by omega), hc] at this
        exact this rfl
      · omega
    · rw [h1]
      by_cases hlt : i < s.size - 1 - t
      · exact absurd hc (h4 _ hlt (by omega))
      · omega
  refine ⟨hl, ?_, by unfold ptHead; rw [hl]⟩
  unfold ptNum lastT
  rw [hl, ByteArray.data_extract, Array.toList_extract, List.extract_eq_take_drop, show ((s.size : Int) - 1 - (t : Int) + 1).toNat = s.size - t by omega, List.take_of_length_le (by rw [List.length_drop, len_size]; omega)]
theorem parsePt0 {s : ByteArray} (h : numP (ptNum s) = 0) : parsePt s = none := by
  unfold parsePt
  split
  · rfl
  · split
    · exact if_neg (fun e => e.1 h)
    · rfl
/-- What stands behind the last colon is no number, if a byte there is no figure, or there are more than 6. -/
theorem ptn_no {x : ByteArray} (h : (∃ c ∈ x.data.toList, ¬ digB c) ∨ 6 < x.size) : numP x = 0 := by
  apply Classical.byContradiction
  intro hn
  obtain ⟨n, _, _, h3, h4⟩ := num_shape hn
  rcases h with ⟨c, hc, hd⟩ | h
  · rw [h4] at hc; exact hd (dd_dig hc)
  · have h5 := dd_len 4 n (by omega)
    rw [← h4, len_size] at h5
    omega
theorem pt_none_a {s : ByteArray} {t : Nat} (ht : t ≤ s.size) (hd : DigT s t) (h : (s.size : Int) - 1 - (t : Int) < 0) : parsePt s = none := by
  rcases last_le ht hd with h1 | ⟨i, h1, h2, _⟩
  · exact parsePt_neg (by omega)
  · omega
theorem pt_none_b {s : ByteArray} {t : Nat} (ht : t ≤ s.size) (hd : DigT s t) (h : ¬ (s.size : Int) - 1 - (t : Int) < 0) (hc : ¬ btB s ((s.size : Int) - 1 - (t : Int)) = 58) (hx : ¬ digB (btB s ((s.size : Int) - 1 - (t : Int))) ∨ t = 6) : parsePt s = none := by
  have e : (s.size : Int) - 1 - (t : Int) = ((s.size - 1 - t : Nat) : Int) := by omega
  have hk : s.size - 1 - t < s.data.toList.length := by rw [len_size]; omega
  rw [e, bt_at hk] at hc hx
  rcases last_le ht hd with h1 | ⟨i, h1, h2, h3, _⟩
  · exact parsePt_neg (by omega)
  · have hi : i ≠ s.size - 1 - t := fun e => by
      subst e
      rw [List.getElem?_eq_getElem hk] at h3
      exact hc (Option.some.inj h3)
    refine parsePt0 (ptn_no ?_)
    have hl : (ptNum s).data.toList = s.data.toList.drop (i + 1) := by
      unfold ptNum
      rw [h1, ByteArray.data_extract, Array.toList_extract, List.extract_eq_take_drop, show ((i : Int) + 1).toNat = i + 1 by omega, List.take_of_length_le (by rw [List.length_drop, len_size]; omega)]
    rcases hx with hx | hx
    · refine .inl ⟨_, ?_, hx⟩
      rw [hl, List.mem_iff_getElem]
      refine ⟨s.size - 1 - t - (i + 1), by rw [List.length_drop, len_size]; omega, ?_⟩
      rw [List.getElem_drop]
      congr 1
      omega
    · refine .inr ?_
      rw [← len_size, hl, List.length_drop, len_size]
      omega
theorem pt_num {s : ByteArray} {t : Nat} (ht6 : t ≤ 6) (ht : t ≤ s.size) (hd : DigT s t) (h : ¬ (s.size : Int) - 1 - (t : Int) < 0) (hc : btB s ((s.size : Int) - 1 - (t : Int)) = 58) :
    numP (ptNum s) = if lastT s t ≠ [] ∧ (lastT s t).headD 48 ≠ 48 ∧ vD (lastT s t) ≤ 65535 then nR s t else 0 :=
  num_dig (pt_colon ht hd h hc).2.1 hd (by rw [lastT_len ht]; omega)
theorem last_head {s : ByteArray} {t : Nat} (h1 : 1 ≤ t) (h : t ≤ s.size) : (lastT s t).headD 48 = btB s ((s.size : Int) - 1 - (t : Int) + 1) := by
  obtain ⟨k, rfl⟩ : ∃ k, t = k + 1 := ⟨t - 1, by omega⟩
  rw [lastT_next (by omega), show (s.size : Int) - 1 - ((k + 1 : Nat) : Int) + 1 = (s.size : Int) - 1 - (k : Int) by omega]
  rfl
theorem pt_zero {s : ByteArray} {t : Nat} (ht6 : t ≤ 6) (ht : t ≤ s.size) (hd : DigT s t) (h : ¬ (s.size : Int) - 1 - (t : Int) < 0) (hc : btB s ((s.size : Int) - 1 - (t : Int)) = 58) (h1 : (s.size : Int) - 1 - (t : Int) + 1 < (s.size : Int)) (h0 : btB s ((s.size : Int) - 1 - (t : Int) + 1) = 48) : parsePt s = none := by
  refine parsePt0 ?_
  rw [pt_num ht6 ht hd h hc, if_neg]
  rintro ⟨_, hh, _⟩
  rw [last_head (by omega) ht, h0] at hh
  exact hh rfl
theorem pt_range {s : ByteArray} {t : Nat} (ht6 : t ≤ 6) (ht : t ≤ s.size) (hd : DigT s t) (h : ¬ (s.size : Int) - 1 - (t : Int) < 0) (hc : btB s ((s.size : Int) - 1 - (t : Int)) = 58) (h1 : ¬ (1 ≤ nR s t ∧ nR s t ≤ 65535)) : parsePt s = none := by
  refine parsePt0 ?_
  rw [pt_num ht6 ht hd h hc]
  split
  · rename_i hh
    obtain ⟨_, _, h3⟩ := hh
    have : nR s t = (vD (lastT s t) : Int) := rfl
    omega
  · rfl
theorem pt_good {s : ByteArray} {t : Nat} (ht6 : t ≤ 6) (ht : t ≤ s.size) (hd : DigT s t) (h : ¬ (s.size : Int) - 1 - (t : Int) < 0) (hc : btB s ((s.size : Int) - 1 - (t : Int)) = 58) (h0 : ¬ ((s.size : Int) - 1 - (t : Int) + 1 < (s.size : Int) ∧ btB s ((s.size : Int) - 1 - (t : Int) + 1) = 48)) (h1 : 1 ≤ nR s t ∧ nR s t ≤ 65535) : numP (ptNum s) = nR s t := by
  have hn : 1 ≤ t := by
    rcases Nat.eq_zero_or_pos t with e | e
    · subst e; rw [nR_0] at h1; omega
    · exact e
  have h3 : nR s t = (vD (lastT s t) : Int) := rfl
  rw [pt_num ht6 ht hd h hc, if_pos]
  refine ⟨fun e => ?_, ?_, by omega⟩
  · have := lastT_len ht
    rw [e] at this
    simp at this
    omega
  · rw [last_head hn ht]
    exact fun e => h0 ⟨by omega, e⟩

/-! ### brackets -/
def bareP (h : ByteArray) : Option Ip := match parseIp (bareS h) with | some a => if bareOk h = true then some a else none | none => none
/-- The address of a text, if it is of that kind. -/
def sixP (X : ByteArray) (b : Bool) : Option Ip := match parseIp X with | some a => if a.six = b then some a else none | none => none
theorem parsePt_n {s : ByteArray} {n : Int} (h : ¬ lastC s < 0) (hn : numP (ptNum s) = n) (h0 : n ≠ 0) : parsePt s = (bareP (ptHead s)).map fun a => ⟨a, n⟩ := by
  unfold parsePt bareP
  rw [if_neg h, hn]
  cases parseIp (bareS (ptHead s)) with
  | none => rfl
  | some a =>
    dsimp only
    by_cases hb : bareOk (ptHead s) = true
    · rw [if_pos ⟨h0, hb⟩, if_pos hb]; rfl
    · rw [if_neg (fun e => hb e.2), if_neg hb]; rfl
theorem dotAcc_six (l : List ByteArray) : ∀ i, (dotAcc l i).six = false
  | 0 => rfl
  | i + 1 => dotAcc_six l i
theorem six_of {s : ByteArray} {a : Ip} (h : parseIp s = some a) : a.six = hasC s := by
  unfold parseIp at h
  cases hc : hasC s with
  | true =>
    rw [hc] at h
    simp only [if_true] at h
    unfold colP at h
    split at h
    · cases h; rfl
    · cases h
  | false =>
    rw [hc] at h
    simp only [Bool.false_eq_true, if_false] at h
    unfold dotP at h
    split at h
    · cases h; exact dotAcc_six _ _
    · cases h
theorem puM_no {M : Nat} : ∀ {l : List UInt8} {acc : Nat}, (∃ c ∈ l, ¬ digB c) → ∀ u, Lib.parseUintM M acc l ≠ .ok u
  | [], _, ⟨_, h, _⟩, _ => absurd h (by simp)
  | c :: r, acc, ⟨x, hx, hn⟩, u => by
    unfold Lib.parseUintM
    split
    · rename_i hd
      have hr : ∃ c ∈ r, ¬ digB c := by
        rcases List.mem_cons.1 hx with rfl | hx
        · exact absurd hd hn
        · exact ⟨x, hx, hn⟩
      split
      · simp
      · split
        · simp
        · exact puM_no hr u
    · simp
theorem decL_no {l : List UInt8} (h : ∃ c ∈ l, ¬ digB c) : decL l = -1 := by
  unfold decL Lib.parseUintB
  split
  · rename_i u hu
    split at hu
    · cases hu
    · exact absurd hu (puM_no h u)
  · rfl
theorem four_br (r : List UInt8) : pFour (91 :: r) = none := by
  unfold pFour
  obtain ⟨x, t, e⟩ : ∃ x t, spl 46 (91 :: r) = (91 :: x) :: t := by
    unfold spl
    rw [if_neg (by decide)]
    cases spl 46 r with
    | nil => exact ⟨[], [], rfl⟩
    | cons y t => exact ⟨y, t, rfl⟩
  rw [e, List.map_cons, decL_no ⟨91, by simp, by unfold digB; decide⟩]
  split
  · rename_i a b c d h
    have : -1 = a := (List.cons.inj h).1
    rw [if_neg (by omega)]
  · rfl
def brk (h : ByteArray) : Prop := 1 < (h.size : Int) ∧ btB h 0 = 91 ∧ btB h ((h.size : Int) - 1) = 93
theorem brk_list {h : ByteArray} (hb : brk h) : ∃ m, h.data.toList = 91 :: (m ++ [93]) ∧ (h.extract 1 ((h.size : Int) - 1).toNat).data.toList = m := by
  obtain ⟨h1, h2, h3⟩ := hb
  have hl := len_size h
  have e0 := bt_at (s := h) (i := 0) (by omega)
  rw [show ((0 : Nat) : Int) = 0 from rfl, h2] at e0
  have e1 := bt_at (s := h) (i := h.size - 1) (by omega)
  rw [show ((h.size - 1 : Nat) : Int) = (h.size : Int) - 1 by omega, h3] at e1
  match hd : h.data.toList, hl with
  | [], hl => simp at hl; omega
  | a :: r, hl =>
    have hr : r ≠ [] := fun e => by subst e; simp at hl; omega
    have ea : a = 91 := by simp only [hd, List.getElem_cons_zero] at e0; exact e0.symm
    have el : r.getLast hr = 93 := by
      simp only [List.length_cons] at hl
      rw [List.getLast_eq_getElem]
      simp only [hd] at e1
      rw [List.getElem_cons] at e1
      rw [dif_neg (by omega)] at e1
      rw [e1]
      congr 1
      omega
    have er : r = r.dropLast ++ [93] := by
      have := (List.dropLast_concat_getLast hr).symm
      rw [el] at this
      exact this
    refine ⟨r.dropLast, by rw [ea, ← er], ?_⟩
    rw [ByteArray.data_extract, Array.toList_extract, List.extract_eq_take_drop, hd, List.drop_succ_cons, List.drop_zero, List.dropLast_eq_take]
    congr 1
    simp only [List.length_cons] at hl
    omega
theorem suf_app (m : List UInt8) : Lib.hasSuffix (m ++ [93]) [93] = true := by
  unfold Lib.hasSuffix
  exact List.isSuffixOf_iff_suffix.2 ⟨m, rfl⟩
theorem brk_yes {h : ByteArray} (hb : brk h) : bareP h = sixP (h.extract 1 ((h.size : Int) - 1).toNat) true := by
  unfold sixP
  obtain ⟨m, hm, hi⟩ := brk_list hb
  have hI : h.extract 1 ((h.size : Int) - 1).toNat = ⟨m.toArray⟩ := (ba_of hi).symm
  have hpre : Lib.hasPrefix h.data.toList [91] = true := by rw [hm]; rfl
  have hA : (bareA h).data.toList = m ++ [93] := by
    unfold bareA Lib.trimPrefix
    rw [if_pos hpre, hm]
    rfl
  have hcc : hasC (⟨m.toArray⟩ : ByteArray) = hasC h := by
    rw [Bool.eq_iff_iff, hasC_iff, hasC_iff, hm]
    simp
  rw [hI]
  unfold bareP
  cases hc : hasC h with
  | true =>
    have hS : bareS h = ⟨m.toArray⟩ := by
      unfold bareS Lib.trimSuffix
      rw [hc, if_pos rfl, hA, if_pos (suf_app m)]
      simp
    have hO : bareOk h = true := by unfold bareOk; rw [hc, hpre, hA, suf_app]; rfl
    rw [hS, hO]
    cases hp : parseIp (⟨m.toArray⟩ : ByteArray) with
    | none => rfl
    | some a => have := six_of hp; rw [hcc, hc] at this; dsimp only; rw [this]
  | false =>
    have hS : bareS h = h := by unfold bareS; rw [hc]; rfl
    have h1 : parseIp h = none := by rw [parseIp_L, if_neg (by rw [← hasC_iff, hc]; simp), hm, four_br]
    rw [hS, h1]
    cases hp : parseIp (⟨m.toArray⟩ : ByteArray) with
    | none => rfl
    | some a => have := six_of hp; rw [hcc, hc] at this; dsimp only; rw [this]; rfl
theorem brk_no {h : ByteArray} (hb : ¬ brk h) : bareP h = sixP h false := by
  unfold sixP
  unfold bareP
  cases hc : hasC h with
  | false =>
    have hS : bareS h = h := by unfold bareS; rw [hc]; rfl
    have hO : bareOk h = true := by unfold bareOk; rw [hc]; rfl
    rw [hS, hO]
    cases hp : parseIp h with
    | none => rfl
    | some a => have := six_of hp; rw [hc] at this; dsimp only; rw [this]; rfl
  | true =>
    have hO : ¬ bareOk h = true := by
      unfold bareOk
      rw [hc]
      intro e
      simp only [if_true, Bool.and_eq_true] at e
      obtain ⟨e1, e2⟩ := e
      have e1' : [91].isPrefixOf h.data.toList = true := e1
      obtain ⟨r, hr⟩ := List.isPrefixOf_iff_prefix.1 e1'
      have hA : (bareA h).data.toList = r := by
        unfold bareA Lib.trimPrefix
        rw [if_pos e1, ← hr]
        rfl
      rw [hA] at e2
      obtain ⟨m, hm⟩ := List.isSuffixOf_iff_suffix.1 e2
      have hl := len_size h
      rw [← hr, ← hm] at hl
      simp only [List.length_append, List.length_cons, List.length_nil] at hl
      refine hb ⟨by omega, ?_, ?_⟩
      · have := bt_at (s := h) (i := 0) (by rw [len_size]; omega)
        rw [show ((0 : Nat) : Int) = 0 from rfl] at this
        rw [this]
        simp [← hr]
      · have := bt_at (s := h) (i := h.size - 1) (by rw [len_size]; omega)
        rw [show ((h.size - 1 : Nat) : Int) = (h.size : Int) - 1 by omega] at this
        rw [this]
        have e3 : h.data.toList = (91 :: m) ++ [93] := by rw [← hr, ← hm]; rfl
        simp only [e3]
        rw [List.getElem_append_right (by simp; omega)]
        simp
    cases hp : parseIp h with
    | none => 
      cases parseIp (bareS h) with
      | none => rfl
      | some a => exact if_neg hO
    | some a =>
      have := six_of hp; rw [hc] at this; dsimp only; rw [this, if_neg (by simp)]
      cases parseIp (bareS h) with
      | none => rfl
      | some a => exact if_neg hO
theorem bne_t {x b : Bool} (h : (!(x == b)) = true) : ¬ x = b := fun e => by subst e; simp at h
theorem bne_f {x b : Bool} (h : (!(x == b)) = false) : x = b := by simpa using h
def retPtOk (r : Option Pt) : Value := .tuple #[ptV (r.getD noPt), .bool r.isSome]
/-- The end of the reference's reading: the figures' place and what stands in front of them. -/
theorem pt_fin {s X : ByteArray} {t : Nat} {b : Bool} (hI : t ≤ 6 ∧ t ≤ s.size ∧ DigT s t) (h : ¬ (s.size : Int) - 1 - (t : Int) < 0) (hc : btB s ((s.size : Int) - 1 - (t : Int)) = 58) (h0 : ¬ ((s.size : Int) - 1 - (t : Int) + 1 < (s.size : Int) ∧ btB s ((s.size : Int) - 1 - (t : Int) + 1) = 48)) (h1 : 1 ≤ nR s t ∧ nR s t ≤ 65535)
    (hp : bareP (s.extract 0 ((s.size : Int) - 1 - (t : Int)).toNat) = sixP X b) : parsePt s = (sixP X b).map fun a => ⟨a, nR s t⟩ := by
  obtain ⟨e1, e2, e3⟩ := pt_colon hI.2.1 hI.2.2 h hc
  rw [parsePt_n (by rw [e1]; exact h) (pt_good hI.1 hI.2.1 hI.2.2 h hc h0 h1) (by omega), e3, hp]
theorem fin_yes {s X : ByteArray} {n : Int} {b : Bool} (hp : parsePt s = (sixP X b).map fun a => ⟨a, n⟩) (h1 : (parseIp X).isSome = true) (h2 : ((parseIp X).getD noIp).six = b) : parsePt s = some ⟨(parseIp X).getD noIp, n⟩ := by
  rw [hp]
  unfold sixP
  cases h : parseIp X with
  | none => rw [h] at h1; cases h1
  | some a => rw [h] at h2; dsimp only; rw [if_pos (show a.six = b from h2)]; rfl
theorem fin_no {s X : ByteArray} {n : Int} {b : Bool} (hp : parsePt s = (sixP X b).map fun a => ⟨a, n⟩) (h : (parseIp X).isSome = false ∨ ¬ ((parseIp X).getD noIp).six = b) : parsePt s = none := by
  rw [hp]
  unfold sixP
  cases hx : parseIp X with
  | none => rfl
  | some a =>
    rw [hx] at h
    rcases h with h | h
    · cases h
    · dsimp only; rw [if_neg (show ¬ a.six = b from h)]; rfl
end Go.Proofs.YthellfigmpjhlaaGreatDoor
