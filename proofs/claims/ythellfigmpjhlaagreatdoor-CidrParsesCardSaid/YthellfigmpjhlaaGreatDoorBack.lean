/- Texts of points and cidrs are read back. -/
import Derived.Test.YthellfigmpjhlaaGreatDoorCdp
set_option linter.unusedVariables false
set_option linter.unusedSimpArgs false
namespace Go.Proofs.YthellfigmpjhlaaGreatDoor
open Go

theorem txtJ_mem {g : Nat → Nat} (hg : ∀ j, g j < 65536) {i n : Nat} {b : UInt8} (h : b ∈ txtJ g i n) : b = 58 ∨ ∃ d, d < 16 ∧ b = hexDig d := by
  rcases join_mem h with rfl | ⟨l, hl, hb⟩
  · exact .inl rfl
  · obtain ⟨j, _, rfl⟩ := List.mem_map.1 hl
    exact .inr (hexT_mem (hg j) hb)
theorem fmt_mem {x : Ip} {b : UInt8} (hb : b ∈ fmtL x) : b = 58 ∨ b = 46 ∨ ∃ d, d < 16 ∧ b = hexDig d := by
  have hJ : ∀ {i n : Nat}, b ∈ txtJ (atN x) i n → b = 58 ∨ b = 46 ∨ ∃ d, d < 16 ∧ b = hexDig d := fun h => by
    rcases txtJ_mem (atN_lt x) h with h | h
    · exact .inl h
    · exact .inr (.inr h)
  unfold fmtL at hb
  split at hb
  · split at hb
    · unfold fmtSix preF at hb
      split at hb
      · exact hJ hb
      · simp only [List.mem_append, List.mem_cons] at hb
        rcases hb with hb | rfl | rfl | hb
        · exact hJ hb
        · exact .inl rfl
        · exact .inl rfl
        · exact hJ hb
    · unfold fmtFour at hb
      rcases join_mem hb with rfl | ⟨l, hl, hb⟩
      · exact .inr (.inl rfl)
      · obtain ⟨c, _, rfl⟩ := List.mem_map.1 hl
        obtain ⟨d, hd, rfl⟩ := decT_mem (UInt8.toNat_lt c) hb
        exact .inr (.inr ⟨d, by omega, rfl⟩)
  · simp at hb
theorem hexDig_no : ∀ d : Fin 16, hexDig d.val ≠ 47 := by decide
theorem fmt_no47 (x : Ip) : (47 : UInt8) ∉ fmtL x := fun h => by
  rcases fmt_mem h with h | h | ⟨d, hd, h⟩
  · exact absurd h (by decide)
  · exact absurd h (by decide)
  · exact hexDig_no ⟨d, hd⟩ h.symm

/-! ### cidrs -/
theorem numOk_dd {x : ByteArray} {n : Nat} (hx : x.data.toList = Lib.decDigits n) (h : n ≤ 128) : numOk x = true ∧ atoiN x = (n : Int) := by
  have hl := len_size x
  have h3 := dd_len 2 n (by omega)
  have hn := dd_ne n
  rw [← hx] at h3 hn
  have hp : 0 < x.data.toList.length := List.length_pos_iff.2 hn
  have hv : vD x.data.toList = n := by rw [hx, dd_val]
  have := cdn_yes (x := x) (fun c hc => by rw [hx] at hc; exact dd_dig hc) (by omega) (by omega) (by omega) (fun e => by
    rcases Nat.eq_zero_or_pos n with h0 | h0
    · rw [h0, dd_lo (by decide)] at hx
      rw [hx] at hl
      simp at hl
      omega
    · have := dd_head h0
      rw [← hx] at this
      exact this e.2)
  rw [hv] at this
  exact this
theorem parse_fmtCd {c : Pt} (h : rightCd c = true) : parseCd (fmtCd c) = .ok c := by
  obtain ⟨b1, b2, b3, b4, b5⟩ := rightCd_bd h
  obtain ⟨n, hn⟩ := Int.eq_ofNat_of_zero_le b1
  have hs : (fmtCd c).data.toList = fmtL c.ip ++ 47 :: Lib.decDigits n := by
    unfold fmtCd fmtCdL
    rw [if_pos h, hn, itoa_nat]
    simp
  have hix : Lib.index (fmtCd c).data.toList [47] = ((fmtL c.ip).length : Int) := by rw [hs]; exact index_one_hit (fmt_no47 _) _
  have hcut : Lib.cut (fmtCd c).data.toList [47] = (fmtL c.ip, Lib.decDigits n, true) := by
    unfold Lib.cut
    rw [hix, if_pos (by omega), Int.toNat_natCast, hs]
    simp only [List.take_left', List.length_cons, List.length_nil, Nat.zero_add]
    rw [show fmtL c.ip ++ 47 :: Lib.decDigits n = (fmtL c.ip ++ [47]) ++ Lib.decDigits n by simp, List.drop_left' (by simp)]
  have hH : slH (fmtCd c) = fmtS c.ip := by unfold slH fmtS; rw [hcut]
  have hY : slY (fmtCd c) = true := by unfold slY; rw [hcut]
  have hT : (slT (fmtCd c)).data.toList = Lib.decDigits n := by unfold slT; rw [hcut]
  obtain ⟨o1, o2⟩ := numOk_dd hT (by omega)
  rw [parseCd_yes (x := c.ip) (by rw [hH]; exact parse_fmt _ b3) hY o1, o2, ← hn, if_pos (fits_iff.2 ⟨b1, b2⟩), if_pos b4]

/-! ### points -/
def ptOk (c : Pt) : Bool := rightIp c.ip && decide (1 ≤ c.port ∧ c.port ≤ 65535)
def fmtPt (c : Pt) : ByteArray := if ptOk c then (if c.ip.six then ⟨#[91]⟩ ++ fmtS c.ip ++ ⟨#[93, 58]⟩ ++ ⟨(Lib.itoa c.port).toArray⟩ else fmtS c.ip ++ ⟨#[58]⟩ ++ ⟨(Lib.itoa c.port).toArray⟩) else ⟨#[]⟩
theorem ptOk_iff {c : Pt} : ptOk c = true ↔ rightIp c.ip = true ∧ 1 ≤ c.port ∧ c.port ≤ 65535 := by unfold ptOk; simp only [Bool.and_eq_true, decide_eq_true_eq]
theorem numP_dd {x : ByteArray} {n : Nat} (hx : x.data.toList = Lib.decDigits n) (h1 : 1 ≤ n) (h2 : n ≤ 65535) : numP x = (n : Int) := by
  have h5 := dd_len 4 n (by omega)
  rw [num_dig hx (fun c hc => dd_dig hc) (by omega), if_pos ⟨dd_ne n, dd_head (by omega), by rw [dd_val]; exact h2⟩, dd_val]
theorem pt_split {s : ByteArray} {H : List UInt8} {n : Nat} (hs : s.data.toList = H ++ 58 :: Lib.decDigits n) (h1 : 1 ≤ n) (h2 : n ≤ 65535) : parsePt s = (bareP ⟨H.toArray⟩).map fun a => ⟨a, (n : Int)⟩ := by
  have hl := len_size s
  have hlen : s.size = H.length + 1 + (Lib.decDigits n).length := by rw [← hl, hs]; simp; omega
  have hT : lastT s (Lib.decDigits n).length = Lib.decDigits n := by
    unfold lastT
    rw [hlen, show H.length + 1 + (Lib.decDigits n).length - (Lib.decDigits n).length = H.length + 1 by omega, hs, show H ++ 58 :: Lib.decDigits n = (H ++ [58]) ++ Lib.decDigits n by simp, List.drop_left' (by simp)]
  have hd : DigT s (Lib.decDigits n).length := fun c hc => by rw [hT] at hc; exact dd_dig hc
  have hc : btB s ((s.size : Int) - 1 - ((Lib.decDigits n).length : Int)) = 58 := by
    rw [show (s.size : Int) - 1 - ((Lib.decDigits n).length : Int) = ((H.length : Nat) : Int) by omega, bt_at (by rw [hl]; omega), List.getElem_of_eq hs]
    simp
  obtain ⟨e1, e2, e3⟩ := pt_colon (by omega) hd (by omega) hc
  have hh : ptHead s = ⟨H.toArray⟩ := by
    rw [e3]
    refine ByteArray.ext (Array.toList_inj.1 ?_)
    rw [ByteArray.data_extract, Array.toList_extract, List.extract_eq_take_drop, hs, show ((s.size : Int) - 1 - ((Lib.decDigits n).length : Int)).toNat = H.length by omega]
    simp
  rw [parsePt_n (by rw [e1]; omega) (numP_dd (by rw [e2, hT]) h1 h2) (by omega), hh]
theorem brk_of {h : ByteArray} {m : List UInt8} (hl : h.data.toList = 91 :: (m ++ [93])) : brk h ∧ h.extract 1 ((h.size : Int) - 1).toNat = ⟨m.toArray⟩ := by
  have hz : h.size = m.length + 2 := by rw [← len_size, hl]; simp
  have hb : brk h := by
    refine ⟨by omega, ?_, ?_⟩
    · have := bt_at (s := h) (i := 0) (by rw [len_size]; omega)
      rw [show ((0 : Nat) : Int) = 0 from rfl, List.getElem_of_eq hl] at this
      exact this
    · have := bt_at (s := h) (i := m.length + 1) (by rw [len_size]; omega)
      rw [show ((m.length + 1 : Nat) : Int) = (h.size : Int) - 1 by omega, List.getElem_of_eq hl] at this
      rw [this]
      simp
  refine ⟨hb, ByteArray.ext (Array.toList_inj.1 ?_)⟩
  rw [ByteArray.data_extract, Array.toList_extract, List.extract_eq_take_drop, hl, hz, show (((m.length + 2 : Nat) : Int) - 1).toNat - 1 = m.length by omega]
  simp
theorem parse_fmtPt {c : Pt} (h : ptOk c = true) : parsePt (fmtPt c) = some c := by
  obtain ⟨b1, b2, b3⟩ := ptOk_iff.1 h
  obtain ⟨n, hn⟩ := Int.eq_ofNat_of_zero_le (show 0 ≤ c.port by omega)
  have hp := parse_fmt c.ip b1
  cases h6 : c.ip.six with
  | true =>
    have hs : (fmtPt c).data.toList = (91 :: (fmtL c.ip ++ [93])) ++ 58 :: Lib.decDigits n := by
      unfold fmtPt fmtS
      rw [if_pos h, h6, if_pos rfl, hn, itoa_nat]
      simp
    have hl : (⟨(91 :: (fmtL c.ip ++ [93])).toArray⟩ : ByteArray).data.toList = 91 :: (fmtL c.ip ++ [93]) := rfl
    obtain ⟨hb, hi⟩ := brk_of hl
    rw [pt_split hs (by omega) (by omega), brk_yes hb, hi, sixP]
    rw [show (⟨(fmtL c.ip).toArray⟩ : ByteArray) = fmtS c.ip from rfl, hp]
    dsimp only
    rw [if_pos h6, ← hn]
    rfl
  | false =>
    have hs : (fmtPt c).data.toList = fmtL c.ip ++ 58 :: Lib.decDigits n := by
      unfold fmtPt fmtS
      rw [if_pos h, h6, if_neg (by simp), hn, itoa_nat]
      simp
    have hc : hasC (fmtS c.ip) = false := by
      rw [Bool.eq_false_iff]
      intro e
      have := six_of hp
      rw [h6, e] at this
      cases this
    rw [pt_split hs (by omega) (by omega), show (⟨(fmtL c.ip).toArray⟩ : ByteArray) = fmtS c.ip from rfl]
    unfold bareP bareS bareOk
    rw [hc, if_neg (by simp), if_neg (by simp), hp]
    dsimp only
    rw [if_pos rfl, ← hn]
    rfl

/-! ### the references' numerals -/
def D10 : ByteArray := ⟨#[48, 49, 50, 51, 52, 53, 54, 55, 56, 57]⟩
theorem cut10_all : ∀ d : Fin 10, D10.extract d.val (d.val + 1) = ⟨#[UInt8.ofNat (48 + d.val)]⟩ := by decide
theorem cut10 {d : Nat} (h : d < 10) : D10.extract d (d + 1) = ⟨[UInt8.ofNat (48 + d)].toArray⟩ := cut10_all ⟨d, h⟩
theorem dec_lo {n : Nat} (h : n < 10) : D10.extract n (n + 1) = ⟨(Lib.decDigits n).toArray⟩ := by rw [cut10 h, dd_lo h]
theorem dec_hi {n : Nat} (h : ¬ n < 10) : (⟨(Lib.decDigits (n / 10)).toArray⟩ : ByteArray) ++ D10.extract (n % 10) (n % 10 + 1) = ⟨(Lib.decDigits n).toArray⟩ := by
  rw [cut10 (by omega), dd_hi h, bcat]
theorem dec_1 {n : Nat} (h : n ≤ 9) : D10.extract (n % 10) (n % 10 + 1) = ⟨(Lib.decDigits n).toArray⟩ := by rw [show n % 10 = n by omega]; exact dec_lo (by omega)
theorem dec_2 {n : Nat} (h1 : 9 < n) (h : n ≤ 99) : D10.extract (n / 10 % 10) (n / 10 % 10 + 1) ++ D10.extract (n % 10) (n % 10 + 1) = ⟨(Lib.decDigits n).toArray⟩ := by
  rw [show n / 10 % 10 = n / 10 by omega, dec_lo (by omega)]; exact dec_hi (by omega)
theorem dec_3 {n : Nat} (h1 : 99 < n) (h : n ≤ 999) : D10.extract (n / 100 % 10) (n / 100 % 10 + 1) ++ (D10.extract (n / 10 % 10) (n / 10 % 10 + 1) ++ D10.extract (n % 10) (n % 10 + 1)) = ⟨(Lib.decDigits n).toArray⟩ := by
  have := dec_2 (n := n / 10) (by omega) (by omega)
  rw [show n / 10 / 10 % 10 = n / 100 % 10 by omega] at this
  rw [← ByteArray.append_assoc, this]
  exact dec_hi (by omega)
end Go.Proofs.YthellfigmpjhlaaGreatDoor
