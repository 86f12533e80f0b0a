/- The reference's reading of a cidr's text. -/
import Derived.Test.YthellfigmpjhlaaGreatDoorPts
import Derived.Test.YthellfigmpjhlaaGreatDoorCidr
set_option linter.unusedVariables false
set_option linter.unusedSimpArgs false
namespace Go.Proofs.YthellfigmpjhlaaGreatDoor
open Go

/-! ### what is parsed is right -/
theorem dotAcc_right (l : List ByteArray) : ∀ i, i ≤ 4 → rightIp (dotAcc l i) = true
  | 0, _ => by show rightIp noIp = true; decide
  | i + 1, h => by
    refine right_good fun j h1 h2 h6 => ?_
    have ih := right_at (dotAcc_right l i (by omega)) (dotAcc_six l i) h1 h2
    have hz := Ip.bytes_len (dotAcc l i)
    show ((dotAcc l i).set i _).bytes.getD j 0 = 0
    unfold Ip.set
    rw [Ip.bytes_of _ _ (by rw [List.length_set]; exact hz), List.getD_eq_getElem?_getD, List.getElem?_set, if_neg (by omega), ← List.getD_eq_getElem?_getD]
    exact ih
theorem six_right {x : Ip} (h : x.six = true) : rightIp x = true := right_good fun j _ _ h6 => by rw [h] at h6; cases h6
theorem parse_right {s : ByteArray} {x : Ip} (h : parseIp s = some x) : rightIp x = true := by
  unfold parseIp at h
  cases hc : hasC s with
  | true => exact six_right ((six_of (by unfold parseIp; exact h)).trans hc)
  | false =>
    rw [hc] at h
    simp only [Bool.false_eq_true, if_false] at h
    unfold dotP at h
    split at h
    · cases h; exact dotAcc_right _ 4 (Nat.le_refl _)
    · cases h

/-! ### the number -/
theorem cdn_yes {x : ByteArray} (hd : ∀ c ∈ x.data.toList, digB c) (h0 : 0 < x.size) (h3 : x.size ≤ 3) (hv : vD x.data.toList ≤ 128) (hh : ¬ (1 < x.size ∧ x.data.toList.headD 48 = 48)) : numOk x = true ∧ atoiN x = (vD x.data.toList : Int) := by
  have hl := len_size x
  have hn : x.data.toList ≠ [] := fun e => by rw [e] at hl; simp at hl; omega
  obtain ⟨d1, d2⟩ := (dec_dig hd (by omega) x rfl).1 hn
  have e := dd_of _ x.data.toList (Nat.le_refl _) hn hd (by
    by_cases h1 : x.size = 1
    · exact .inr (by omega)
    · exact .inl fun e => hh ⟨by omega, e⟩)
  exact ⟨numOk_yes d1 (by omega) (by omega) (by rw [d2, itoa_nat, e]), d2⟩
theorem cdn_shape {x : ByteArray} (h : numOk x = true) : ∃ n : Nat, n ≤ 128 ∧ x.data.toList = Lib.decDigits n := by
  unfold numOk at h
  simp only [Bool.and_eq_true, decide_eq_true_eq] at h
  obtain ⟨⟨⟨h1, h2⟩, h3⟩, h4⟩ := h
  obtain ⟨n, hn⟩ := Int.eq_ofNat_of_zero_le h2
  rw [hn, itoa_nat] at h4
  exact ⟨n, by omega, ba_eq h4⟩
theorem cdn_no {x : ByteArray} (h : (∃ c ∈ x.data.toList, ¬ digB c) ∨ 3 < x.size ∨ x.size = 0 ∨ 128 < vD x.data.toList ∨ (1 < x.size ∧ x.data.toList.headD 48 = 48)) : numOk x = false := by
  rw [Bool.eq_false_iff]
  intro hn
  obtain ⟨n, h1, h2⟩ := cdn_shape hn
  have hl := len_size x
  rcases h with ⟨c, hc, hd⟩ | h | h | h | ⟨h, h'⟩
  · rw [h2] at hc; exact hd (dd_dig hc)
  · have := dd_len 2 n (by omega)
    rw [← h2] at this; omega
  · have := dd_ne n
    rw [← h2] at this
    exact this (List.eq_nil_of_length_eq_zero (by omega))
  · rw [h2, dd_val] at h; omega
  · rcases Nat.eq_zero_or_pos n with e | e
    · rw [e, dd_lo (by decide)] at h2
      rw [h2] at hl
      simp at hl; omega
    · rw [h2] at h'; exact dd_head e h'
/-- The first i bytes' worth. -/
def hN (x : ByteArray) (i : Nat) : Int := (vD (x.data.toList.take i) : Int)
def DigH (x : ByteArray) (i : Nat) : Prop := ∀ c ∈ x.data.toList.take i, digB c
theorem digH_0 (x : ByteArray) : DigH x 0 := fun c hc => by cases hc
theorem hN_0 (x : ByteArray) : hN x 0 = 0 := by unfold hN; rw [List.take_zero]; simp [vD, vF_nil]
theorem digH_next {x : ByteArray} {i : Nat} (h : i < x.size) (hd : DigH x i) (hc : digB (btB x (i : Int))) : DigH x (i + 1) := fun c hm => by
  have hi : i < x.data.toList.length := by rw [len_size]; exact h
  rw [bt_at hi] at hc
  rw [← List.take_append_getElem hi] at hm
  rcases List.mem_append.1 hm with hm | hm
  · exact hd c hm
  · rw [List.mem_singleton.1 hm]; exact hc
theorem hN_next {x : ByteArray} {i : Nat} (h : i < x.size) (hc : digB (btB x (i : Int))) : hN x i * 10 + ((btB x (i : Int)).toNat : Int) - 48 = hN x (i + 1) := by
  have hi : i < x.data.toList.length := by rw [len_size]; exact h
  unfold digB at hc
  unfold hN
  rw [bt_at hi] at hc ⊢
  rw [← List.take_append_getElem hi, vD_snoc]
  omega
theorem hN_bd {x : ByteArray} {i : Nat} (h : i ≤ 3) (hd : DigH x i) : 0 ≤ hN x i ∧ hN x i ≤ 1000 := by
  have h1 := vD_lt _ hd
  have h2 : (10 : Nat) ^ (x.data.toList.take i).length ≤ 10 ^ 3 := Nat.pow_le_pow_right (by decide) (by rw [List.length_take]; omega)
  unfold hN
  omega
theorem digH_no {x : ByteArray} {i : Nat} (h : i < x.size) (hc : ¬ digB (btB x (i : Int)) ∨ 2 < i) : numOk x = false := by
  have hi : i < x.data.toList.length := by rw [len_size]; exact h
  rcases hc with hc | hc
  · rw [bt_at hi] at hc
    exact cdn_no (.inl ⟨_, List.getElem_mem hi, hc⟩)
  · exact cdn_no (.inr (.inl (by omega)))
theorem take_all {x : ByteArray} {i : Nat} (h : x.size ≤ i) : x.data.toList.take i = x.data.toList := List.take_of_length_le (by rw [len_size]; exact h)
theorem head_at {x : ByteArray} (h : 0 < x.size) : x.data.toList.headD 48 = btB x 0 := by
  have hi : 0 < x.data.toList.length := by rw [len_size]; exact h
  have := bt_at hi
  rw [show ((0 : Nat) : Int) = 0 from rfl] at this
  rw [this]
  have hA : ∀ (l : List UInt8) (hl : 0 < l.length), l.headD 48 = l[0] := fun l hl => by cases l with
    | nil => simp at hl
    | cons a r => rfl
  exact hA _ _
theorem digH_end {x : ByteArray} {i : Nat} (h : x.size ≤ i) (hd : DigH x i) (h0 : 0 < x.size) (h3 : x.size ≤ 3) (hv : ¬ hN x i > 128) (hh : ¬ (1 < (x.size : Int) ∧ btB x 0 = 48)) : numOk x = true ∧ atoiN x = hN x i := by
  unfold DigH at hd
  unfold hN at hv ⊢
  rw [take_all h] at hd hv ⊢
  exact cdn_yes hd h0 h3 (by omega) (fun e => hh ⟨by omega, by rw [← head_at h0]; exact e.2⟩)
theorem digH_end0 {x : ByteArray} (h : (x.size : Int) = 0) : numOk x = false := cdn_no (.inr (.inr (.inl (by omega))))
theorem digH_end1 {x : ByteArray} {i : Nat} (h : x.size ≤ i) (hv : hN x i > 128) : numOk x = false := by
  unfold hN at hv
  rw [take_all h] at hv
  exact cdn_no (.inr (.inr (.inr (.inl (by omega)))))
theorem digH_end2 {x : ByteArray} (h : 1 < (x.size : Int)) (hh : btB x 0 = 48) : numOk x = false := cdn_no (.inr (.inr (.inr (.inr ⟨by omega, by rw [head_at (by omega)]; exact hh⟩))))

/-! ### the stroke -/
def NoSl (s : ByteArray) (i : Nat) : Prop := (47 : UInt8) ∉ s.data.toList.take i
theorem noSl_0 (s : ByteArray) : NoSl s 0 := fun h => by cases h
theorem noSl_next {s : ByteArray} {i : Nat} (h : i < s.size) (hd : NoSl s i) (hc : ¬ btB s (i : Int) = 47) : NoSl s (i + 1) := fun hm => by
  have hi : i < s.data.toList.length := by rw [len_size]; exact h
  rw [bt_at hi] at hc
  rw [← List.take_append_getElem hi] at hm
  rcases List.mem_append.1 hm with hm | hm
  · exact hd hm
  · exact hc (List.mem_singleton.1 hm).symm
theorem noSl_end {s : ByteArray} {i : Nat} (h : s.size ≤ i) (hd : NoSl s i) : parseCd s = .error 3 := by
  unfold NoSl at hd
  rw [take_all h] at hd
  have hy : slY s = false := by
    unfold slY Lib.cut
    rw [index_one_none hd]
    rfl
  cases hp : parseIp (slH s) with
  | none => exact parseCd_none hp
  | some x => exact parseCd_no hp (.inl hy)
theorem noSl_hit {s : ByteArray} {i : Nat} (h : i < s.size) (hd : NoSl s i) (hc : btB s (i : Int) = 47) : slY s = true ∧ slH s = s.extract 0 (i : Int).toNat ∧ slT s = s.extract ((i : Int) + 1).toNat s.size := by
  have hi : i < s.data.toList.length := by rw [len_size]; exact h
  rw [bt_at hi] at hc
  have hs : s.data.toList = s.data.toList.take i ++ 47 :: s.data.toList.drop (i + 1) := by
    rw [← hc, ← List.drop_eq_getElem_cons hi, List.take_append_drop]
  have hix : Lib.index s.data.toList [47] = (i : Int) := by
    have := index_one_hit hd (s.data.toList.drop (i + 1))
    rw [← hs, List.length_take, Nat.min_eq_left (by omega)] at this
    exact this
  have hcut : Lib.cut s.data.toList [47] = (s.data.toList.take i, s.data.toList.drop (i + 1), true) := by
    unfold Lib.cut
    rw [hix, if_pos (by omega), Int.toNat_natCast]
    rfl
  unfold slY slH slT
  rw [hcut]
  refine ⟨rfl, ByteArray.ext (Array.toList_inj.1 ?_), ByteArray.ext (Array.toList_inj.1 ?_)⟩
  · rw [ByteArray.data_extract, Array.toList_extract, List.extract_eq_take_drop]; simp
  · rw [ByteArray.data_extract, Array.toList_extract, List.extract_eq_take_drop, show ((i : Int) + 1).toNat = i + 1 by omega, List.take_of_length_le (l := s.data.toList.drop (i + 1)) (by rw [List.length_drop, len_size]; omega)]
def numCd (r : Except Nat Pt) : Value := match r with | .ok c => .tuple #[ptV c, .int .i64 0] | .error i => .tuple #[ptV noPt, .int .i64 ((i : Int) + 1)]
theorem cd_no {s : ByteArray} (h : parseIp (slH s) = none ∨ numOk (slT s) = false) : parseCd s = .error 3 := by
  cases hp : parseIp (slH s) with
  | none => exact parseCd_none hp
  | some x =>
    rcases h with h | h
    · rw [hp] at h; cases h
    · exact parseCd_no hp (.inr h)
theorem getD_right (s : ByteArray) : rightIp ((parseIp s).getD noIp) = true := by
  cases h : parseIp s with
  | none => decide
  | some x => exact parse_right h
theorem none_of {s : ByteArray} (h : (parseIp s).isSome = false) : parseIp s = none := by
  cases hp : parseIp s with
  | none => rfl
  | some x => rw [hp] at h; cases h
/-- The end of the reference's reading. -/
theorem cd_end {s : ByteArray} {i k : Nat} (h : i < s.size) (hd : NoSl s i) (hc : btB s (i : Int) = 47) (hp : (parseIp (s.extract 0 (i : Int).toNat)).isSome = true) (hk : (s.extract ((i : Int) + 1).toNat s.size).size ≤ k) (hJ : k ≤ 3 ∧ k ≤ (s.extract ((i : Int) + 1).toNat s.size).size ∧ DigH (s.extract ((i : Int) + 1).toNat s.size) k) (h0 : 0 < (s.extract ((i : Int) + 1).toNat s.size).size) (hv : ¬ hN (s.extract ((i : Int) + 1).toNat s.size) k > 128) (hh : ¬ (1 < ((s.extract ((i : Int) + 1).toNat s.size).size : Int) ∧ btB (s.extract ((i : Int) + 1).toNat s.size) 0 = 48)) :
    parseCd s = if hN (s.extract ((i : Int) + 1).toNat s.size) k ≤ widthIp ((parseIp (s.extract 0 (i : Int).toNat)).getD noIp) then (if cutIp ((parseIp (s.extract 0 (i : Int).toNat)).getD noIp) (hN (s.extract ((i : Int) + 1).toNat s.size) k) = ((parseIp (s.extract 0 (i : Int).toNat)).getD noIp) then .ok ⟨(parseIp (s.extract 0 (i : Int).toNat)).getD noIp, hN (s.extract ((i : Int) + 1).toNat s.size) k⟩ else .error 7) else .error 0 := by
  obtain ⟨e1, e2, e3⟩ := noSl_hit h hd hc
  have hb := hN_bd hJ.1 hJ.2.2
  have hn := digH_end hk hJ.2.2 h0 (by omega) hv hh
  cases hx : parseIp (s.extract 0 (i : Int).toNat) with
  | none => rw [hx] at hp; cases hp
  | some x =>
    rw [parseCd_yes (x := x) (by rw [e2, hx]) e1 (by rw [e3]; exact hn.1), e3, hn.2]
    show (if fitsIp x _ = true then _ else _) = if _ ≤ widthIp x then _ else _
    by_cases hw : hN (s.extract ((i : Int) + 1).toNat s.size) k ≤ widthIp x
    · rw [if_pos (fits_iff.2 ⟨hb.1, hw⟩), if_pos hw]; rfl
    · rw [if_neg (fun e => hw (fits_iff.1 e).2), if_neg hw]
end Go.Proofs.YthellfigmpjhlaaGreatDoor
