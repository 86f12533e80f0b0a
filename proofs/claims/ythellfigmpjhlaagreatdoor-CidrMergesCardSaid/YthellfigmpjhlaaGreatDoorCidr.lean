/- Addresses' bits, and cidrs, as plain functions. -/
import Derived.Test.YthellfigmpjhlaaGreatDoorFmt
import Derived.Test.YthellfigmpjhlaaGreatDoorPortsP
namespace Go.Proofs.YthellfigmpjhlaaGreatDoor
open Go Go.RowKit
set_option linter.unusedVariables false
set_option linter.unusedSimpArgs false
set_option maxRecDepth 20000

/-! ### Bits of a byte -/
def keepB (b : UInt8) (k : Nat) : UInt8 := b &&& UInt8.ofNat (65280 / 2 ^ k)
def bitOf (b : UInt8) (j : Nat) : Nat := b.toNat / 2 ^ (7 - j) % 2
theorem keep_all : ∀ b : Fin 256, ∀ k : Fin 9, ∀ j : Fin 8, bitOf (keepB (UInt8.ofNat b.val) k.val) j.val = if j.val < k.val then bitOf (UInt8.ofNat b.val) j.val else 0 := by decide +kernel
theorem ofNat_self (b : UInt8) : UInt8.ofNat b.toNat = b := UInt8.toNat_inj.1 (by simp)
theorem keep_bit (b : UInt8) {k j : Nat} (hk : k ≤ 8) (hj : j < 8) : bitOf (keepB b k) j = if j < k then bitOf b j else 0 := by
  have := keep_all ⟨b.toNat, b.toNat_lt⟩ ⟨k, by omega⟩ ⟨j, hj⟩
  simpa only [ofNat_self] using this
theorem sum_all : ∀ b : Fin 256, b.val = bitOf (UInt8.ofNat b.val) 0 * 128 + bitOf (UInt8.ofNat b.val) 1 * 64 + bitOf (UInt8.ofNat b.val) 2 * 32 + bitOf (UInt8.ofNat b.val) 3 * 16 + bitOf (UInt8.ofNat b.val) 4 * 8 + bitOf (UInt8.ofNat b.val) 5 * 4 + bitOf (UInt8.ofNat b.val) 6 * 2 + bitOf (UInt8.ofNat b.val) 7 := by decide +kernel
theorem byte_ext {a b : UInt8} (h : ∀ j, j < 8 → bitOf a j = bitOf b j) : a = b := by
  have ha := sum_all ⟨a.toNat, a.toNat_lt⟩
  have hb := sum_all ⟨b.toNat, b.toNat_lt⟩
  simp only [ofNat_self] at ha hb
  apply UInt8.toNat_inj.1
  rw [ha, hb, h 0 (by omega), h 1 (by omega), h 2 (by omega), h 3 (by omega), h 4 (by omega), h 5 (by omega), h 6 (by omega), h 7 (by omega)]
theorem bit_le (b : UInt8) (j : Nat) : bitOf b j ≤ 1 := by unfold bitOf; omega
theorem add_all : ∀ b : Fin 256, ∀ j : Fin 8, ∀ v : Fin 2, b.val % 2 ^ (8 - j.val) = 0 → ∀ t : Fin 8, bitOf (UInt8.ofNat b.val + UInt8.ofNat (v.val * 2 ^ (7 - j.val))) t.val = if t.val = j.val then v.val else bitOf (UInt8.ofNat b.val) t.val := by decide +kernel
theorem low_all : ∀ b : Fin 256, ∀ j : Fin 8, (∀ t : Fin 8, j.val ≤ t.val → bitOf (UInt8.ofNat b.val) t.val = 0) → b.val % 2 ^ (8 - j.val) = 0 := by decide +kernel
theorem add_bit {b : UInt8} {j v : Nat} (hj : j < 8) (hv : v ≤ 1) (h : ∀ t, j ≤ t → t < 8 → bitOf b t = 0) {t : Nat} (ht : t < 8) : bitOf (b + UInt8.ofNat (v * 2 ^ (7 - j))) t = if t = j then v else bitOf b t := by
  have h1 := low_all ⟨b.toNat, b.toNat_lt⟩ ⟨j, hj⟩ (fun t ht => by simp only [ofNat_self]; exact h t.val ht t.isLt)
  have := add_all ⟨b.toNat, b.toNat_lt⟩ ⟨j, hj⟩ ⟨v, by omega⟩ h1 ⟨t, ht⟩
  simpa only [ofNat_self] using this

/-! ### Bits of an address -/
def bitAt (x : Ip) (i : Nat) : Nat := bitOf (x.at (i / 8)) (i % 8)
theorem Ip.ext_at {x y : Ip} (h6 : x.six = y.six) (h : ∀ i, i < 16 → x.at i = y.at i) : x = y := by
  refine Ip.ext_bytes h6 (List.ext_getElem? fun i => ?_)
  rcases Nat.lt_or_ge i 16 with hi | hi
  · have := h i hi
    unfold Ip.at at this
    rw [List.getElem?_eq_getElem (by rw [Ip.bytes_len]; exact hi), List.getElem?_eq_getElem (by rw [Ip.bytes_len]; exact hi)]
    rw [List.getD_eq_getElem?_getD, List.getD_eq_getElem?_getD, List.getElem?_eq_getElem (by rw [Ip.bytes_len]; exact hi), List.getElem?_eq_getElem (by rw [Ip.bytes_len]; exact hi)] at this
    exact congrArg some this
  · rw [List.getElem?_eq_none (by rw [Ip.bytes_len]; exact hi), List.getElem?_eq_none (by rw [Ip.bytes_len]; exact hi)]
theorem Ip.ext_bit {x y : Ip} (h6 : x.six = y.six) (h : ∀ i, i < 128 → bitAt x i = bitAt y i) : x = y :=
  Ip.ext_at h6 fun i hi => byte_ext fun j hj => by
    have := h (8 * i + j) (by omega)
    unfold bitAt at this
    rwa [show (8 * i + j) / 8 = i by omega, show (8 * i + j) % 8 = j by omega] at this
theorem set_at (x : Ip) (i : Nat) (v : UInt8) (j : Nat) (hi : i < 16) : (x.set i v).at j = if j = i then v else x.at j := by
  unfold Ip.set Ip.at
  rw [Ip.bytes_of _ _ (by rw [List.length_set, Ip.bytes_len]), List.getD_eq_getElem?_getD, List.getD_eq_getElem?_getD, List.getElem?_set]
  by_cases h : j = i
  · subst h; rw [if_pos rfl, if_pos (by rw [Ip.bytes_len]; exact hi), if_pos rfl]; rfl
  · rw [if_neg (fun e => h e.symm), if_neg h]
theorem set_six (x : Ip) (i : Nat) (v : UInt8) : (x.set i v).six = x.six := rfl

def keepK (n : Int) (i : Nat) : Nat := (min (max (n - 8 * (i : Int)) 0) 8).toNat
theorem keepK_le (n : Int) (i : Nat) : keepK n i ≤ 8 := by unfold keepK; omega
def mixIp (x : Ip) (n : Int) : Nat → Ip
  | 0 => x
  | i + 1 => (mixIp x n i).set i (keepB ((mixIp x n i).at i) (keepK n i))
def cutIp (x : Ip) (n : Int) : Ip := mixIp x n 16
theorem mix_six (x : Ip) (n : Int) : ∀ i, (mixIp x n i).six = x.six
  | 0 => rfl
  | i + 1 => by rw [mixIp, set_six, mix_six x n i]
theorem mix_at (x : Ip) (n : Int) (j : Nat) : ∀ i, i ≤ 16 → (mixIp x n i).at j = if j < i then keepB (x.at j) (keepK n j) else x.at j
  | 0, _ => by rw [if_neg (by omega)]; rfl
  | i + 1, h => by
    rw [mixIp, set_at (mixIp x n i) i _ j (by omega), mix_at x n i i (by omega), mix_at x n j i (by omega)]
    by_cases e : j = i
    · subst e; rw [if_pos rfl, if_neg (Nat.lt_irrefl j), if_pos (Nat.lt_succ_self j)]
    · rw [if_neg e]
      by_cases e2 : j < i
      · rw [if_pos e2, if_pos (by omega)]
      · rw [if_neg e2, if_neg (by omega)]
theorem cut_six (x : Ip) (n : Int) : (cutIp x n).six = x.six := mix_six x n 16
theorem cut_bit (x : Ip) (n : Int) {i : Nat} (hi : i < 128) : bitAt (cutIp x n) i = if (i : Int) < n then bitAt x i else 0 := by
  unfold bitAt cutIp
  rw [mix_at x n (i / 8) 16 (by omega), if_pos (by omega), keep_bit _ (keepK_le _ _) (by omega)]
  unfold keepK
  by_cases h : (i : Int) < n
  · rw [if_pos h, if_pos (by omega)]
  · rw [if_neg h, if_neg (by omega)]
def rcut (x : Ip) : Nat → Ip
  | 0 => ⟨x.six, 0, 0, 0, 0, 0, 0, 0, 0, 0, 0, 0, 0, 0, 0, 0, 0⟩
  | i + 1 => (rcut x i).set (i / 8) ((rcut x i).at (i / 8) + UInt8.ofNat (bitAt x i * 2 ^ (7 - i % 8)))
theorem rcut_six (x : Ip) : ∀ i, (rcut x i).six = x.six
  | 0 => rfl
  | i + 1 => by rw [rcut, set_six, rcut_six x i]
theorem zero_at (b : Bool) : ∀ j, (⟨b, 0, 0, 0, 0, 0, 0, 0, 0, 0, 0, 0, 0, 0, 0, 0, 0⟩ : Ip).at j = 0 := by
  intro j
  have : (⟨b, 0, 0, 0, 0, 0, 0, 0, 0, 0, 0, 0, 0, 0, 0, 0, 0⟩ : Ip).bytes = List.replicate 16 0 := rfl
  unfold Ip.at
  rw [this, List.getD_eq_getElem?_getD, List.getElem?_replicate]
  split <;> rfl
theorem rcut_bit (x : Ip) : ∀ i, i ≤ 128 → ∀ j, j < 128 → bitAt (rcut x i) j = if j < i then bitAt x j else 0
  | 0, _, j, _ => by
    unfold bitAt rcut
    rw [zero_at, if_neg (by omega)]; unfold bitOf; simp
  | i + 1, h, j, hj => by
    have ih := rcut_bit x i (by omega)
    have hz : ∀ t, i % 8 ≤ t → t < 8 → bitOf ((rcut x i).at (i / 8)) t = 0 := fun t h1 h2 => by
      have := ih (8 * (i / 8) + t) (by omega)
      unfold bitAt at this
      rw [show (8 * (i / 8) + t) / 8 = i / 8 by omega, show (8 * (i / 8) + t) % 8 = t by omega, if_neg (by omega)] at this
      exact this
    have hij := ih j hj
    unfold bitAt at hij ⊢
    rw [rcut, set_at (rcut x i) (i / 8) _ (j / 8) (by omega)]
    by_cases e : j / 8 = i / 8
    · rw [if_pos e, add_bit (j := i % 8) (v := bitAt x i) (t := j % 8) (by omega) (bit_le _ _) hz (by omega)]
      by_cases e2 : j % 8 = i % 8
      · obtain rfl : j = i := by omega
        rw [if_pos rfl, if_pos (by omega)]; rfl
      · rw [if_neg e2, ← e, hij]
        by_cases e3 : j < i
        · rw [if_pos e3, if_pos (by omega)]
        · rw [if_neg e3, if_neg (by omega)]
    · rw [if_neg e, hij]
      by_cases e3 : j < i
      · rw [if_pos e3, if_pos (by omega)]
      · rw [if_neg e3, if_neg (by omega)]
theorem rcut_cut (x : Ip) {n : Nat} (h : n ≤ 128) : rcut x n = cutIp x n := by
  refine Ip.ext_bit (by rw [rcut_six, cut_six]) fun i hi => ?_
  rw [rcut_bit x n h i hi, cut_bit x n hi]
  by_cases e : i < n
  · rw [if_pos e, if_pos (by omega)]
  · rw [if_neg e, if_neg (by omega)]

/-! ### Cidrs -/
def widthIp (x : Ip) : Int := if x.six then 128 else 32
theorem width_le (x : Ip) : widthIp x ≤ 128 ∧ 32 ≤ widthIp x := by unfold widthIp; split <;> omega
def fitsIp (x : Ip) (n : Int) : Bool := decide (0 ≤ n) && decide (n ≤ widthIp x)
def rightCd (c : Pt) : Bool := rightIp c.ip && fitsIp c.ip c.port && decide (cutIp c.ip c.port = c.ip)
def contCd (c : Pt) (x : Ip) : Bool := rightCd c && rightIp x && (x.six == c.ip.six) && decide (cutIp x c.port = c.ip)
def covCd (c d : Pt) : Bool := rightCd d && decide (d.port ≥ c.port) && contCd c d.ip
theorem right_bits {x : Ip} (h : rightIp x = true) {i : Nat} (h1 : widthIp x ≤ (i : Int)) (h2 : i < 128) : bitAt x i = 0 := by
  unfold rightIp at h
  cases h6 : x.six
  · rw [h6, Bool.false_or, decide_eq_true_iff] at h
    unfold widthIp at h1
    rw [h6, if_neg (by simp)] at h1
    have : x.at (i / 8) = 0 := by
      refine h _ ?_
      rw [List.mem_iff_getElem?]
      refine ⟨i / 8 - 4, ?_⟩
      rw [List.getElem?_take, if_pos (by omega), List.getElem?_drop, show 4 + (i / 8 - 4) = i / 8 by omega]
      unfold Ip.at
      rw [List.getD_eq_getElem?_getD, List.getElem?_eq_getElem (by rw [Ip.bytes_len]; omega)]; rfl
    unfold bitAt bitOf
    rw [this]; simp
  · unfold widthIp at h1
    rw [h6, if_pos rfl] at h1
    omega
/-- All bits from n on are noughts. -/
def ZeroIp (x : Ip) (n : Int) : Prop := ∀ i : Nat, n ≤ (i : Int) → (i : Int) < widthIp x → bitAt x i = 0
theorem zero_cut {x : Ip} {n : Int} (h : rightIp x = true) : ZeroIp x n ↔ cutIp x n = x := by
  have hw := width_le x
  constructor
  · intro hz
    refine Ip.ext_bit (cut_six x n) fun i hi => ?_
    rw [cut_bit x n hi]
    by_cases h1 : (i : Int) < n
    · rw [if_pos h1]
    · rw [if_neg h1]
      by_cases h2 : (i : Int) < widthIp x
      · exact (hz i (by omega) h2).symm
      · exact (right_bits h (by omega) hi).symm
  · intro e i h1 h2
    have := cut_bit x n (i := i) (by omega)
    rw [e, if_neg (by omega)] at this
    exact this
theorem same_cut {x y : Ip} {n : Int} (h6 : x.six = y.six) (hy : cutIp y n = y) (hn : n ≤ 128) : (∀ i : Nat, (i : Int) < n → bitAt x i = bitAt y i) ↔ cutIp x n = y := by
  constructor
  · intro h
    refine Ip.ext_bit (by rw [cut_six, h6]) fun i hi => ?_
    rw [cut_bit x n hi]
    by_cases h1 : (i : Int) < n
    · rw [if_pos h1, h i h1]
    · have := cut_bit y n hi
      rw [hy, if_neg h1] at this
      rw [if_neg h1, this]
  · intro e i hi
    have := cut_bit x n (i := i) (by omega)
    rw [if_pos hi, e] at this
    exact this.symm

/-! ### What the walks meet -/
theorem shr_keep (n : Int) (i : Nat) : ((65280 : Int).fdiv (2 ^ (min (min (max (n - 8 * (i : Int)) 0) 8).toNat IntKind.u16.bits))) = ((65280 / 2 ^ keepK n i : Nat) : Int) := by
  have hk := keepK_le n i
  have e : min (min (max (n - 8 * (i : Int)) 0) 8).toNat IntKind.u16.bits = keepK n i := by show min (keepK n i) 16 = keepK n i; omega
  rw [e, Int.fdiv_eq_ediv_of_nonneg _ (Int.pow_nonneg (by omega))]
  rw [show ((2 : Int) ^ keepK n i) = ((2 ^ keepK n i : Nat) : Int) by simp]
  exact (Int.natCast_ediv 65280 _).symm
theorem keep_conv (n : Int) (i : Nat) : IntKind.u8.wrap ((65280 / 2 ^ keepK n i : Nat) : Int) = (((UInt8.ofNat (65280 / 2 ^ keepK n i)).toNat : Nat) : Int) := by
  rw [ub_wrap]
  unfold ub
  congr 1
  rw [show (((65280 / 2 ^ keepK n i : Nat) : Int) % 256).toNat = (65280 / 2 ^ keepK n i) % 256 by omega]
  simp
theorem and_u8 (a b : UInt8) : IntKind.u8.wrap (((BitVec.ofInt 8 (a.toNat : Int) &&& BitVec.ofInt 8 (b.toNat : Int)).toNat : Nat) : Int) = ((a &&& b).toNat : Int) := by
  have ha := a.toNat_lt
  have hb := b.toNat_lt
  have h1 : (BitVec.ofInt 8 (a.toNat : Int)).toNat = a.toNat := by simp
  have h2 : (BitVec.ofInt 8 (b.toNat : Int)).toNat = b.toNat := by simp
  rw [BitVec.toNat_and, h1, h2, UInt8.toNat_and]
  have : a.toNat &&& b.toNat ≤ a.toNat := Nat.and_le_left
  exact u8In (by omega) (by omega)
theorem add_u8 (a b : UInt8) : IntKind.u8.wrap ((a.toNat : Int) + (b.toNat : Int)) = ((a + b).toNat : Int) := by
  rw [ub_wrap]
  unfold ub
  rw [UInt8.toNat_add]
  simp; omega
theorem shr_bit (b : UInt8) (i : Nat) : (((b.toNat : Nat) : Int).fdiv (2 ^ (min (7 - (i : Int) % 8).toNat IntKind.i64.bits))) = ((b.toNat / 2 ^ (7 - i % 8) : Nat) : Int) := by
  have e : min (7 - (i : Int) % 8).toNat IntKind.i64.bits = 7 - i % 8 := by show min _ 64 = _; omega
  rw [e, Int.fdiv_eq_ediv_of_nonneg _ (Int.pow_nonneg (by omega)), show ((2 : Int) ^ (7 - i % 8)) = ((2 ^ (7 - i % 8) : Nat) : Int) by simp]
  exact (Int.natCast_ediv _ _).symm
theorem bit_rem (x : Ip) (i : Nat) : Int.tmod (((x.at (i / 8)).toNat / 2 ^ (7 - i % 8) : Nat) : Int) 2 = (bitAt x i : Int) := by
  rw [Int.tmod_eq_emod_of_nonneg (Int.natCast_nonneg _)]
  unfold bitAt bitOf
  exact (Int.natCast_emod _ 2).symm
theorem quo8 {i : Nat} (h : i < 1000) : IntKind.i64.wrap (Int.tdiv (i : Int) 8) = ((i / 8 : Nat) : Int) := by
  rw [i64Quo (by omega) (by omega) (by omega)]; omega
theorem shl_bit {v i : Nat} (hv : v ≤ 1) : IntKind.i64.wrap ((v : Int) * 2 ^ (min (7 - (i : Int) % 8).toNat IntKind.i64.bits)) = ((v * 2 ^ (7 - i % 8) : Nat) : Int) := by
  have e : min (7 - (i : Int) % 8).toNat IntKind.i64.bits = 7 - i % 8 := by show min _ 64 = _; omega
  have hp : 2 ^ (7 - i % 8) ≤ 2 ^ 7 := Nat.pow_le_pow_right (by omega) (by omega)
  have hb : v * 2 ^ (7 - i % 8) ≤ 1 * 2 ^ 7 := Nat.mul_le_mul hv hp
  rw [e, show ((v : Int) * 2 ^ (7 - i % 8)) = ((v * 2 ^ (7 - i % 8) : Nat) : Int) by simp]
  exact i64In (by omega) (by omega)
theorem nat_conv (m : Nat) : IntKind.u8.wrap (m : Int) = (((UInt8.ofNat m).toNat : Nat) : Int) := by
  rw [ub_wrap]
  unfold ub
  rw [show ((m : Int) % 256).toNat = m % 256 by omega]
  congr 1
  simp
theorem rightCd_bd {c : Pt} (h : rightCd c = true) : 0 ≤ c.port ∧ c.port ≤ widthIp c.ip ∧ rightIp c.ip = true ∧ cutIp c.ip c.port = c.ip ∧ widthIp c.ip ≤ 128 := by
  unfold rightCd fitsIp at h
  simp only [Bool.and_eq_true, decide_eq_true_eq] at h
  exact ⟨h.1.2.1, h.1.2.2, h.1.1, h.2, (width_le _).1⟩
theorem zero_ret {x : Ip} {m : Nat} {r : Bool} (h : rightIp x = true) (hr : r = true ↔ ZeroIp x (m : Int)) : r = decide (cutIp x (m : Int) = x) := by
  rw [Bool.eq_iff_iff, hr, decide_eq_true_iff, zero_cut h]
theorem cont_no {c : Pt} {x : Ip} {i : Nat} (h1 : rightCd c = true) (h6 : (x.six == c.ip.six) = true) (hi : (i : Int) < c.port) (hne : ¬ (bitAt x i : Int) = (bitAt c.ip i : Int)) : contCd c x = false := by
  obtain ⟨-, b2, -, b4, b5⟩ := rightCd_bd h1
  unfold contCd
  have : decide (cutIp x c.port = c.ip) = false := by
    rw [decide_eq_false_iff_not]
    intro e
    exact hne (congrArg (Nat.cast : Nat → Int) ((same_cut (by simpa using h6) b4 (by omega)).2 e i hi))
  rw [this, Bool.and_false]
theorem cont_yes {c : Pt} {x : Ip} {i : Nat} (h1 : rightCd c = true) (h2 : rightIp x = true) (h6 : (x.six == c.ip.six) = true) (hi : ¬ (i : Int) < c.port) (hb : ∀ j, j < i → bitAt x j = bitAt c.ip j) : contCd c x = true := by
  obtain ⟨-, b2, -, b4, b5⟩ := rightCd_bd h1
  unfold contCd
  have : decide (cutIp x c.port = c.ip) = true := by
    rw [decide_eq_true_iff]
    exact (same_cut (by simpa using h6) b4 (by omega)).1 fun j hj => hb j (by omega)
  rw [this, h1, h2, h6]; rfl
def cmpInt (x y : Int) : Int := if x < y then -1 else if x > y then 1 else 0
def orL : List Int → Int
  | [] => 0
  | x :: t => if x = 0 then orL t else x
theorem or_next {l : List Int} {i : Nat} (h : orL l = orL (l.drop i)) (hi : i < l.length) (h0 : nth l i = 0) : orL l = orL (l.drop (i + 1)) := by
  rw [h, List.drop_eq_getElem_cons hi, orL, if_pos (by rw [← nth_eq hi]; exact h0)]
theorem or_hit {l : List Int} {i : Nat} (h : orL l = orL (l.drop i)) (hi : i < l.length) (h0 : ¬ nth l i = 0) : nth l i = orL l := by
  rw [h, List.drop_eq_getElem_cons hi, orL, if_neg (by rw [← nth_eq hi]; exact h0), nth_eq hi]
theorem or_end {l : List Int} {i : Nat} (h : orL l = orL (l.drop i)) (hi : l.length ≤ i) : 0 = orL l := by rw [h, List.drop_of_length_le hi]; rfl
def cmpCd (c d : Pt) : Int := if refIp c.ip d.ip = 0 then cmpInt c.port d.port else refIp c.ip d.ip
theorem cmpCd_or (c d : Pt) : orL [refIp c.ip d.ip, cmpInt c.port d.port] = cmpCd c d := by
  unfold cmpCd
  simp only [orL]
  split
  · split <;> simp_all
  · rfl

/-! ### Parsing -/
def slH (s : ByteArray) : ByteArray := ⟨(Lib.cut s.data.toList [47]).1.toArray⟩
def slT (s : ByteArray) : ByteArray := ⟨(Lib.cut s.data.toList [47]).2.1.toArray⟩
def slY (s : ByteArray) : Bool := (Lib.cut s.data.toList [47]).2.2
theorem slH_size (s : ByteArray) : (slH s).size ≤ s.size := by
  show (Lib.cut s.data.toList [47]).1.length ≤ s.data.toList.length
  unfold Lib.cut
  split
  · simp only [List.length_take]; omega
  · exact Nat.le_refl _
theorem slT_size (s : ByteArray) : (slT s).size ≤ s.size := by
  show (Lib.cut s.data.toList [47]).2.1.length ≤ s.data.toList.length
  unfold Lib.cut
  split
  · simp only [List.length_drop]; omega
  · simp
theorem asc_slH {s : ByteArray} (h : asc s) : asc (slH s) := fun b hb => h b (by
  have hb : b ∈ (Lib.cut s.data.toList [47]).1 := hb
  unfold Lib.cut at hb
  split at hb
  · exact List.mem_of_mem_take hb
  · exact hb)
def numOk (s : ByteArray) : Bool := atoiOk s && decide (0 ≤ atoiN s) && decide (atoiN s ≤ 128) && decide ((⟨(Lib.itoa (atoiN s)).toArray⟩ : ByteArray) = s)
def parseCd (s : ByteArray) : Except Nat Pt := match parseIp (slH s) with
  | none => .error 3
  | some x => if slY s && numOk (slT s) then (if fitsIp x (atoiN (slT s)) then (if cutIp x (atoiN (slT s)) = x then .ok ⟨x, atoiN (slT s)⟩ else .error 7) else .error 0) else .error 3
def retCd (ea : Nat → Addr) (r : Except Nat Pt) : Value := match r with | .ok c => .tuple #[ptV c, .nilIface] | .error i => .tuple #[ptV noPt, errV ea i]
theorem parseCd_none {s : ByteArray} (h : parseIp (slH s) = none) : parseCd s = .error 3 := by unfold parseCd; rw [h]
theorem parseCd_no {s : ByteArray} {x : Ip} (h : parseIp (slH s) = some x) (hb : slY s = false ∨ numOk (slT s) = false) : parseCd s = .error 3 := by
  unfold parseCd; rw [h]
  have : (slY s && numOk (slT s)) = false := by rcases hb with e | e <;> simp [e]
  simp only [this]; rfl
theorem parseCd_yes {s : ByteArray} {x : Ip} (h : parseIp (slH s) = some x) (h1 : slY s = true) (h2 : numOk (slT s) = true) : parseCd s = if fitsIp x (atoiN (slT s)) then (if cutIp x (atoiN (slT s)) = x then .ok ⟨x, atoiN (slT s)⟩ else .error 7) else .error 0 := by
  unfold parseCd; rw [h]
  simp only [h1, h2, Bool.and_self, if_true]
def ofCd (x : Ip) (n : Int) : Except Nat Pt := if rightIp x then (if fitsIp x n then .ok ⟨cutIp x n, n⟩ else .error 0) else .error 7
def fmtCdL (c : Pt) : List UInt8 := fmtL c.ip ++ [47] ++ Lib.itoa c.port
def fmtCd (c : Pt) : ByteArray := if rightCd c then ⟨(fmtCdL c).toArray⟩ else ⟨#[]⟩

theorem numOk_yes {s : ByteArray} (h1 : atoiOk s = true) (h2 : ¬ atoiN s < 0) (h3 : ¬ atoiN s > 128) (h4 : (⟨(Lib.itoa (atoiN s)).toArray⟩ : ByteArray) = s) : numOk s = true := by
  unfold numOk
  simp only [Bool.and_eq_true, decide_eq_true_eq]
  exact ⟨⟨⟨h1, by omega⟩, by omega⟩, h4⟩
theorem numOk_no {s : ByteArray} (h : atoiOk s = false ∨ atoiN s < 0 ∨ atoiN s > 128 ∨ ¬ (⟨(Lib.itoa (atoiN s)).toArray⟩ : ByteArray) = s) : numOk s = false := by
  unfold numOk
  rcases h with h | h | h | h
  · rw [h]; rfl
  · rw [decide_eq_false (show ¬ 0 ≤ atoiN s by omega)]; simp
  · rw [decide_eq_false (show ¬ atoiN s ≤ 128 by omega)]; simp
  · rw [decide_eq_false h]; simp
theorem itoa_small {n : Int} (h0 : 0 ≤ n) (h1 : n < 256) : Lib.itoa n = decT n.toNat := by
  obtain ⟨m, rfl⟩ := Int.eq_ofNat_of_zero_le h0
  exact decT_itoa (by omega)
theorem itoa_size {n : Int} (h0 : 0 ≤ n) (h1 : n < 256) : (Lib.itoa n).length ≤ 3 := by rw [itoa_small h0 h1]; exact decT_len _
theorem fmtCd_no {c : Pt} (h : rightCd c = false) : fmtCd c = ⟨#[]⟩ := by unfold fmtCd; rw [if_neg (by rw [h]; simp)]
theorem fmtCd_yes {c : Pt} (h : rightCd c = true) : fmtS c.ip ++ ⟨#[47]⟩ ++ ⟨(Lib.itoa c.port).toArray⟩ = fmtCd c := by
  unfold fmtCd fmtCdL fmtS
  rw [if_pos h, ← bcat, ← bcat]
theorem right_at {x : Ip} (h : rightIp x = true) {i : Nat} (h1 : x.six = false) (h2 : 4 ≤ i) (h3 : i < 16) : x.at i = 0 := by
  by_cases e : ((x.at i).toNat : Int) = 0
  · exact UInt8.toNat_inj.1 (by show (x.at i).toNat = 0; omega)
  · rw [right_bad h1 h2 h3 e] at h; cases h
theorem keep_zero (k : Nat) : keepB 0 k = 0 := by unfold keepB; exact UInt8.zero_and
theorem right_cut {x : Ip} (h : rightIp x = true) (n : Int) : rightIp (cutIp x n) = true := right_good fun j h1 h2 h6 => by
  unfold cutIp
  rw [mix_at x n j 16 (Nat.le_refl _), if_pos h2, right_at h (by rw [cut_six] at h6; exact h6) h1 h2, keep_zero]
theorem cut_cut (x : Ip) (n : Int) : cutIp (cutIp x n) n = cutIp x n := Ip.ext_bit (by rw [cut_six]) fun i hi => by
  rw [cut_bit _ n hi, cut_bit x n hi]; split <;> rfl
theorem fits_cut (x : Ip) (n m : Int) : fitsIp (cutIp x m) n = fitsIp x n := by unfold fitsIp widthIp; rw [cut_six]
theorem rightCd_of {x : Ip} {n : Int} (h : rightIp x = true) (hf : fitsIp x n = true) : rightCd ⟨cutIp x n, n⟩ = true := by
  unfold rightCd
  simp only [right_cut h, fits_cut, hf, cut_cut, decide_true, Bool.and_self]
theorem cont_of {x : Ip} {n : Int} (h : rightIp x = true) (hf : fitsIp x n = true) : contCd ⟨cutIp x n, n⟩ x = true := by
  unfold contCd
  simp only [rightCd_of h hf, h, cut_six, beq_self_eq_true, decide_true, Bool.and_self]
theorem fits_iff {x : Ip} {n : Int} : fitsIp x n = true ↔ 0 ≤ n ∧ n ≤ widthIp x := by unfold fitsIp; simp only [Bool.and_eq_true, decide_eq_true_eq]
theorem fits_not {x : Ip} {n : Int} (h : fitsIp x n = false) : n < 0 ∨ n > widthIp x := by
  have : ¬ (0 ≤ n ∧ n ≤ widthIp x) := fun e => by rw [fits_iff.2 e] at h; cases h
  omega
/-! the chapter's example -/
def tenIp : Ip := ⟨false, 10, 0, 0, 0, 0, 0, 0, 0, 0, 0, 0, 0, 0, 0, 0, 0⟩
def tenCd : Pt := ⟨tenIp, 8⟩
def tenT : ByteArray := ⟨#[49, 48, 46, 48, 46, 48, 46, 48, 47, 56]⟩
theorem ten_head : slH tenT = fmtS tenIp := by decide +kernel
theorem ten_num : numOk (slT tenT) = true ∧ atoiN (slT tenT) = 8 := by
  have h1 : slT tenT = ⟨#[56]⟩ := by decide +kernel
  have h2 : atoiN ⟨#[56]⟩ = 8 := by decide +kernel
  have h3 : atoiOk ⟨#[56]⟩ = true := by decide +kernel
  rw [h1]
  exact ⟨numOk_yes h3 (by rw [h2]; decide) (by rw [h2]; decide) (by rw [h2, itoa_small (by decide) (by decide)]; decide +kernel), h2⟩
theorem ten_parse : parseCd tenT = .ok tenCd := by
  rw [parseCd_yes (x := tenIp) (by rw [ten_head]; exact parse_fmt _ (by decide)) (by decide +kernel) ten_num.1, ten_num.2, if_pos (by decide), if_pos (by decide +kernel)]; rfl
theorem ten_asc : asc tenT := by unfold asc tenT; decide
theorem ten_fmt : fmtCd tenCd = tenT := by
  unfold fmtCd fmtCdL
  rw [if_pos (by decide +kernel), show Lib.itoa tenCd.port = decT 8 from itoa_small (by decide) (by decide)]
  decide +kernel
theorem ten_cont : contCd tenCd ⟨false, 10, 1, 2, 3, 0, 0, 0, 0, 0, 0, 0, 0, 0, 0, 0, 0⟩ = true := by decide +kernel

/-! ### '==' of cidrs -/
theorem run_eqCd (d : Nat) (a b : Pt) (W : World) : (Op.equalIn (d + 1 + 1 + 1 + 1) 68 (ptV a) (ptV b)).run Tryz.prog W = .ok (decide (a = b)) W := by
  rw [← ptEq_dec]
  exact eq_struct Tryz.underlying68 (by kernel_rfl) (eqf_cons (by kernel_rfl) (a := ipV a.ip) (b := ipV b.ip) (by kernel_rfl) (by kernel_rfl) (run_eqIp d a.ip b.ip W)
    (eqf_cons (by kernel_rfl) (a := .int .i64 a.port) (b := .int .i64 b.port) (by kernel_rfl) (by kernel_rfl) (eq_int Tryz.underlying3) eqf_nil))
section
variable {o : Oper} {E : Env} {W : World} {ax bx : Operand} {T T' : TypeId}
theorem x_eqCd {a b : Pt} (hop : o.op = .binOp .eql 68 ax bx T') (h1 : rho E ax = ptV a) (h2 : rho E bx = ptV b) : (execOp (rho E) o).run Tryz.prog W = .ok (.value (.bool (decide (a = b)))) W :=
  x_eq hop h1 h2 (by kernel_rfl) rfl (run_eqCd 9996 a b W)
theorem x_neCd {a b : Pt} (hop : o.op = .binOp .neq 68 ax bx T') (h1 : rho E ax = ptV a) (h2 : rho E bx = ptV b) : (execOp (rho E) o).run Tryz.prog W = .ok (.value (.bool (!decide (a = b)))) W :=
  x_ne hop h1 h2 (by kernel_rfl) rfl (run_eqCd 9996 a b W)
end
end Go.Proofs.YthellfigmpjhlaaGreatDoor
