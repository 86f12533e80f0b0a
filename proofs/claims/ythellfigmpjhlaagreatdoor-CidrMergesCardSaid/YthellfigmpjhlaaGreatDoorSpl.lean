/- Texts that are parted and joined. -/
import Derived.Lib.SplitLaws
import Derived.Lib.Case
import Derived.Lib.ItoaNum
import Derived.Lib.ParseIntB
import Derived.Lib.IndexMore
import Derived.Lib.Join
set_option linter.unusedVariables false
set_option linter.unusedSimpArgs false
namespace Go.Proofs.YthellfigmpjhlaaGreatDoor
open Go

/-- The parts between a byte. -/
def spl (c : UInt8) : List UInt8 → List (List UInt8)
  | [] => [[]]
  | b :: l => if b = c then [] :: spl c l else match spl c l with
    | h :: t => (b :: h) :: t
    | [] => [[b]]
theorem spl_ne (c : UInt8) (l : List UInt8) : spl c l ≠ [] := by
  cases l with
  | nil => simp [spl]
  | cons b l => unfold spl; split; simp; split <;> simp
theorem spl_none {c : UInt8} : ∀ {l : List UInt8}, c ∉ l → spl c l = [l]
  | [], _ => rfl
  | b :: l, h => by
    simp only [List.mem_cons, not_or] at h
    unfold spl
    rw [if_neg (fun e => h.1 e.symm), spl_none h.2]
theorem spl_app {c : UInt8} : ∀ {x : List UInt8}, c ∉ x → ∀ l, spl c (x ++ c :: l) = x :: spl c l
  | [], _, l => by simp [spl]
  | b :: x, h, l => by
    simp only [List.mem_cons, not_or] at h
    show spl c (b :: (x ++ c :: l)) = _
    rw [spl, if_neg (fun e => h.1 e.symm), spl_app h.2 l]
theorem join_two (c : UInt8) (x y : List UInt8) (r : List (List UInt8)) : Lib.join (x :: y :: r) [c] = x ++ c :: Lib.join (y :: r) [c] := by
  rw [Lib.join_cons, Lib.join_cons]; simp [Lib.joinTail]
theorem spl_join {c : UInt8} : ∀ {L : List (List UInt8)}, L ≠ [] → (∀ x ∈ L, c ∉ x) → spl c (Lib.join L [c]) = L
  | [], h, _ => absurd rfl h
  | [x], _, h => by rw [Lib.join_one]; exact spl_none (h x (by simp))
  | x :: y :: r, _, h => by
    rw [join_two, spl_app (h x (by simp)), spl_join (by simp) (fun z hz => h z (List.mem_cons_of_mem _ hz))]

theorem index_one_none {c : UInt8} {l : List UInt8} (h : c ∉ l) : Lib.index l [c] = -1 := by
  refine Lib.index_none fun j hj => ?_
  unfold Lib.occAt
  cases hd : l.drop j with
  | nil => rfl
  | cons b t =>
    have hb : b ∈ l := List.mem_of_mem_drop (by rw [hd]; exact List.mem_cons_self)
    simp only [List.isPrefixOf, Bool.and_true, beq_eq_false_iff_ne]
    exact fun e => h (e ▸ hb)
theorem index_one_hit {c : UInt8} {x : List UInt8} (h : c ∉ x) (l : List UInt8) : Lib.index (x ++ c :: l) [c] = x.length := by
  refine Lib.index_first (by simp) ?_ fun j hj => ?_
  · unfold Lib.occAt; simp [List.isPrefixOf]
  · unfold Lib.occAt
    rw [List.drop_append_of_le_length (by omega), List.drop_eq_getElem_cons hj]
    simp only [List.cons_append, List.isPrefixOf, Bool.and_true, beq_eq_false_iff_ne]
    exact fun e => h (e ▸ List.getElem_mem _)
theorem split_mem {c : UInt8} : ∀ {l : List UInt8}, c ∈ l → ∃ x y, l = x ++ c :: y ∧ c ∉ x
  | b :: l, h => by
    by_cases e : b = c
    · exact ⟨[], l, by rw [e]; rfl, by simp⟩
    · obtain ⟨x, y, h1, h2⟩ := split_mem (l := l) (by rcases List.mem_cons.1 h with h' | h'; exact absurd h'.symm e; exact h')
      exact ⟨b :: x, y, by rw [h1]; rfl, by simp only [List.mem_cons, not_or]; exact ⟨fun q => e q.symm, h2⟩⟩
theorem spl_index (c : UInt8) : ∀ (k : Nat) (l : List UInt8), l.count c = k → Lib.splitK [c] 0 k l = spl c l
  | 0, l, h => by rw [spl_none (by simpa using List.count_eq_zero.1 h)]; rfl
  | k + 1, l, h => by
    have hm : c ∈ l := List.count_pos_iff.1 (by omega)
    obtain ⟨x, y, rfl, hx⟩ := split_mem hm
    rw [spl_app hx]
    unfold Lib.splitK
    rw [index_one_hit hx y, if_neg (by simp)]
    have hc : y.count c = k := by
      rw [List.count_append, List.count_cons_self, List.count_eq_zero.2 hx] at h
      omega
    simp only [Int.toNat_natCast, Nat.add_zero, List.length_cons, List.length_nil, List.take_left']
    rw [show x ++ c :: y = (x ++ [c]) ++ y by simp, List.drop_left' (by simp), spl_index c k y hc]

/-- The text is parted at its first two colons. -/
def cutC : List UInt8 → Option (List UInt8 × List UInt8)
  | a :: b :: l => if a = 58 ∧ b = 58 then some ([], l) else (cutC (b :: l)).map fun p => (a :: p.1, p.2)
  | _ => none
theorem cutC_index : ∀ l : List UInt8, Lib.cut l [58, 58] = match cutC l with | some (h, t) => (h, t, true) | none => (l, [], false)
  | [] => by decide
  | [a] => by
    unfold Lib.cut
    have : Lib.index [a] [58, 58] = -1 := by simp [Lib.index]
    rw [this]; rfl
  | a :: b :: l => by
    have ih := cutC_index (b :: l)
    unfold cutC
    by_cases h : a = 58 ∧ b = 58
    · rw [if_pos h]
      obtain ⟨rfl, rfl⟩ := h
      simp [Lib.cut, Lib.index]
    · rw [if_neg h]
      have h0 : List.isPrefixOf [58, 58] (a :: b :: l) = false := by
        simp only [List.isPrefixOf, Bool.and_eq_false_iff, beq_eq_false_iff_ne, Bool.and_true]
        by_cases ha : a = 58
        · exact .inr fun e => h ⟨ha, e.symm⟩
        · exact .inl fun e => ha e.symm
      have hi : Lib.index (a :: b :: l) [58, 58] = if Lib.index (b :: l) [58, 58] == -1 then -1 else Lib.index (b :: l) [58, 58] + 1 := by
        rw [Lib.index.eq_2, h0]; rfl
      have hge := Lib.index_ge (b :: l) [58, 58]
      unfold Lib.cut at ih ⊢
      rw [hi]
      by_cases hn : Lib.index (b :: l) [58, 58] = -1
      · rw [hn] at ih ⊢
        cases hc : cutC (b :: l) with
        | none => simp
        | some p => rw [hc] at ih; simp at ih
      · rw [show (if (Lib.index (b :: l) [58, 58] == -1) = true then (-1 : Int) else Lib.index (b :: l) [58, 58] + 1) = Lib.index (b :: l) [58, 58] + 1 from if_neg (by simpa using hn), if_pos (by omega)]
        rw [if_pos (by omega)] at ih
        obtain ⟨n, hn'⟩ := Int.eq_ofNat_of_zero_le (show 0 ≤ Lib.index (b :: l) [58, 58] by omega)
        rw [hn'] at ih ⊢
        cases hc : cutC (b :: l) with
        | none => rw [hc] at ih; simp at ih
        | some p =>
          rw [hc] at ih
          simp only [Prod.mk.injEq, and_true] at ih
          obtain ⟨h1, h2⟩ := ih
          simp only [Option.map_some, Prod.mk.injEq, and_true]
          rw [← h1, ← h2]
          have e1 : ((n : Int) + 1).toNat = n + 1 := by omega
          have e2 : ((n : Int)).toNat = n := by omega
          rw [e1, e2]
          refine ⟨rfl, ?_⟩
          rfl
/-- No two colons, and none at the end. -/
def noDbl : List UInt8 → Bool
  | a :: b :: l => !(a == 58 && b == 58) && noDbl (b :: l)
  | [a] => !(a == 58)
  | [] => true
theorem cutC_none : ∀ {l : List UInt8}, noDbl l = true → cutC l = none
  | [], _ => rfl
  | [_], _ => rfl
  | a :: b :: l, h => by
    simp only [noDbl, Bool.and_eq_true, Bool.not_eq_true', Bool.and_eq_false_iff, beq_eq_false_iff_ne] at h
    unfold cutC
    rw [if_neg (fun e => by rcases h.1 with q | q; exact q e.1; exact q e.2), cutC_none h.2]; rfl
theorem cutC_hit : ∀ {x : List UInt8}, noDbl x = true → ∀ y, cutC (x ++ 58 :: 58 :: y) = some (x, y)
  | [], _, y => by simp [cutC]
  | [a], h, y => by
    simp only [noDbl, Bool.not_eq_true', beq_eq_false_iff_ne] at h
    show cutC (a :: 58 :: 58 :: y) = _
    simp [cutC, h]
  | a :: b :: l, h, y => by
    simp only [noDbl, Bool.and_eq_true, Bool.not_eq_true', Bool.and_eq_false_iff, beq_eq_false_iff_ne] at h
    show cutC (a :: b :: (l ++ 58 :: 58 :: y)) = _
    unfold cutC
    rw [if_neg (fun e => by rcases h.1 with q | q; exact q e.1; exact q e.2)]
    have := cutC_hit (x := b :: l) h.2 y
    rw [show b :: (l ++ 58 :: 58 :: y) = (b :: l) ++ 58 :: 58 :: y from rfl, this]; rfl
theorem noDbl_one : ∀ {x : List UInt8}, (58 : UInt8) ∉ x → noDbl x = true
  | [], _ => rfl
  | [a], h => by simp at h; simp [noDbl]; exact fun e => h e.symm
  | a :: b :: l, h => by
    simp only [List.mem_cons, not_or] at h
    have := noDbl_one (x := b :: l) (by simp only [List.mem_cons, not_or]; exact h.2)
    simp only [noDbl, this, Bool.and_true, Bool.not_eq_true', Bool.and_eq_false_iff, beq_eq_false_iff_ne]
    exact .inl fun e => h.1 e.symm
theorem noDbl_app {b : UInt8} {r : List UInt8} (hb : b ≠ 58) (hr : noDbl (b :: r) = true) : ∀ {x : List UInt8}, (58 : UInt8) ∉ x → noDbl (x ++ 58 :: b :: r) = true
  | [], _ => by simp [noDbl, hr, hb]
  | [a], h => by
    simp at h
    have ha : a ≠ 58 := fun e => h e.symm
    show noDbl (a :: 58 :: b :: r) = true
    simp [noDbl, hr, hb, ha]
  | a :: c :: l, h => by
    simp only [List.mem_cons, not_or] at h
    have := noDbl_app hb hr (x := c :: l) (by simp only [List.mem_cons, not_or]; exact h.2)
    show noDbl (a :: c :: (l ++ 58 :: b :: r)) = true
    have ha : a ≠ 58 := fun e => h.1 e.symm
    rw [noDbl, show c :: (l ++ 58 :: b :: r) = (c :: l) ++ 58 :: b :: r from rfl, this]
    simp [ha]
theorem noDbl_join : ∀ {L : List (List UInt8)}, (∀ x ∈ L, (58 : UInt8) ∉ x ∧ x ≠ []) → noDbl (Lib.join L [58]) = true
  | [], _ => rfl
  | [x], h => by rw [Lib.join_one]; exact noDbl_one (h x (by simp)).1
  | x :: y :: r, h => by
    have ih := noDbl_join (L := y :: r) (fun z hz => h z (List.mem_cons_of_mem _ hz))
    rw [join_two]
    obtain ⟨hy, hy0⟩ := h y (by simp)
    obtain ⟨b, t, rfl⟩ : ∃ b t, y = b :: t := by cases y with | nil => exact absurd rfl hy0 | cons b t => exact ⟨b, t, rfl⟩
    have e : ∃ q, Lib.join ((b :: t) :: r) [58] = b :: q := by rw [Lib.join_cons]; exact ⟨_, rfl⟩
    obtain ⟨q, e⟩ := e
    rw [e] at ih ⊢
    exact noDbl_app (fun e => hy (by rw [e]; exact List.mem_cons_self)) ih (h x (by simp)).1

def hexDig (n : Nat) : UInt8 := ([48, 49, 50, 51, 52, 53, 54, 55, 56, 57, 97, 98, 99, 100, 101, 102] : List UInt8).getD n 0
/-- A number below 65536 to the base 16; below 256, to the base 10. -/
def hexT (n : Nat) : List UInt8 :=
  if n < 16 then [hexDig n] else if n < 256 then [hexDig (n / 16), hexDig (n % 16)] else if n < 4096 then [hexDig (n / 256), hexDig (n / 16 % 16), hexDig (n % 16)] else [hexDig (n / 4096), hexDig (n / 256 % 16), hexDig (n / 16 % 16), hexDig (n % 16)]
def decT (n : Nat) : List UInt8 :=
  if n < 10 then [hexDig n] else if n < 100 then [hexDig (n / 10), hexDig (n % 10)] else [hexDig (n / 100), hexDig (n / 10 % 10), hexDig (n % 10)]
/-- The reference's numeral. -/
def numT (b n : Nat) : List UInt8 := if _h : n < b ∨ b < 2 then [hexDig n] else numT b (n / b) ++ [hexDig (n % b)]
termination_by n
decreasing_by exact Nat.div_lt_self (by omega) (by omega)
theorem numT_lo {b n : Nat} (h : n < b) : numT b n = [hexDig n] := by unfold numT; rw [dif_pos (.inl h)]
theorem numT_hi {b n : Nat} (h : ¬ n < b) (hb : 2 ≤ b) : numT b n = numT b (n / b) ++ [hexDig (n % b)] := by rw [numT, dif_neg (by omega)]
theorem numT_hex {n : Nat} (h : n < 65536) : numT 16 n = hexT n := by
  unfold hexT
  by_cases h1 : n < 16
  · rw [if_pos h1, numT_lo h1]
  rw [if_neg h1, numT_hi h1 (by omega)]
  by_cases h2 : n < 256
  · rw [if_pos h2, numT_lo (by omega)]; rfl
  rw [if_neg h2, numT_hi (by omega) (by omega)]
  by_cases h3 : n < 4096
  · rw [if_pos h3, numT_lo (by omega), Nat.div_div_eq_div_mul]; rfl
  rw [if_neg h3, numT_hi (by omega) (by omega), numT_lo (by omega), Nat.div_div_eq_div_mul, Nat.div_div_eq_div_mul, show n / 16 / 16 = n / 256 by rw [Nat.div_div_eq_div_mul]]; rfl
theorem numT_dec {n : Nat} (h : n < 256) : numT 10 n = decT n := by
  unfold decT
  by_cases h1 : n < 10
  · rw [if_pos h1, numT_lo h1]
  rw [if_neg h1, numT_hi h1 (by omega)]
  by_cases h2 : n < 100
  · rw [if_pos h2, numT_lo (by omega)]; rfl
  rw [if_neg h2, numT_hi (by omega) (by omega), numT_lo (by omega), Nat.div_div_eq_div_mul]; rfl
theorem dig_all : ∀ d : Fin 16, Lib.lowerB (hexDig d) = hexDig d ∧ Lib.indexByte [48, 49, 50, 51, 52, 53, 54, 55, 56, 57, 97, 98, 99, 100, 101, 102] (hexDig d) = (d.val : Int) ∧ hexDig d ≠ 58 ∧ hexDig d ≠ 46 ∧ (hexDig d).toNat < 128 := by decide
theorem dig_at {d : Nat} (h : d < 16) : Lib.lowerB (hexDig d) = hexDig d ∧ Lib.indexByte [48, 49, 50, 51, 52, 53, 54, 55, 56, 57, 97, 98, 99, 100, 101, 102] (hexDig d) = (d : Int) ∧ hexDig d ≠ 58 ∧ hexDig d ≠ 46 ∧ (hexDig d).toNat < 128 := dig_all ⟨d, h⟩
theorem hexT_mem {n : Nat} (h : n < 65536) {b : UInt8} (hb : b ∈ hexT n) : ∃ d, d < 16 ∧ b = hexDig d := by
  unfold hexT at hb
  split at hb
  · simp at hb; exact ⟨_, by omega, hb⟩
  split at hb
  · simp at hb; rcases hb with hb | hb <;> exact ⟨_, by omega, hb⟩
  split at hb
  · simp at hb; rcases hb with hb | hb | hb <;> exact ⟨_, by omega, hb⟩
  · simp at hb; rcases hb with hb | hb | hb | hb <;> exact ⟨_, by omega, hb⟩
theorem hexT_ok {n : Nat} (h : n < 65536) : (58 : UInt8) ∉ hexT n ∧ hexT n ≠ [] := by
  refine ⟨fun hm => ?_, ?_⟩
  · obtain ⟨d, hd, e⟩ := hexT_mem h hm
    exact (dig_at hd).2.2.1 e.symm
  · unfold hexT; repeat' split
    all_goals simp
theorem hexT_len (n : Nat) : 1 ≤ (hexT n).length ∧ (hexT n).length ≤ 4 := by unfold hexT; repeat' split
                                                                             all_goals simp
theorem decT_mem {n : Nat} (h : n < 256) {b : UInt8} (hb : b ∈ decT n) : ∃ d, d < 10 ∧ b = hexDig d := by
  unfold decT at hb
  split at hb
  · simp at hb; exact ⟨_, by omega, hb⟩
  split at hb
  · simp at hb; rcases hb with hb | hb <;> exact ⟨_, by omega, hb⟩
  · simp at hb; rcases hb with hb | hb | hb <;> exact ⟨_, by omega, hb⟩
theorem dig_dec : ∀ d : Fin 10, hexDig d = UInt8.ofNat (48 + d.val) := by decide
theorem numT_itoa : ∀ (k n : Nat), n < k → numT 10 n = Lib.decDigits n
  | 0, _, h => absurd h (Nat.not_lt_zero _)
  | k + 1, n, h => by
    rw [Lib.decDigits]
    by_cases h1 : n < 10
    · rw [dif_pos h1, numT_lo h1, dig_dec ⟨n, h1⟩]
    · rw [dif_neg h1, numT_hi h1 (by omega), numT_itoa k (n / 10) (by omega), dig_dec ⟨n % 10, by omega⟩]
theorem decT_itoa {n : Nat} (h : n < 256) : Lib.itoa (n : Int) = decT n := by
  rw [← numT_dec h, numT_itoa (n + 1) n (by omega), Lib.itoa, if_neg (by omega), Int.toNat_natCast]
theorem decT_parse : ∀ n : Fin 256, Lib.parseUintB 8 (decT n.val) = .ok n.val ∧ (decT n.val).length ≤ 3 := by decide +kernel
theorem join_snoc (c : UInt8) (x : List UInt8) : ∀ {L : List (List UInt8)}, L ≠ [] → Lib.join (L ++ [x]) [c] = Lib.join L [c] ++ c :: x
  | [], h => absurd rfl h
  | [y], _ => by simp [Lib.join_cons, Lib.joinTail]
  | y :: z :: r, _ => by
    have ih := join_snoc c x (L := z :: r) (by simp)
    rw [show y :: z :: r ++ [x] = y :: z :: (r ++ [x]) from rfl, Lib.join_cons, Lib.join_cons]
    simp [Lib.joinTail]

/-- Groups' texts, with colons between. -/
def txtJ (g : Nat → Nat) (a n : Nat) : List UInt8 := Lib.join ((List.range' a n).map fun j => hexT (g j)) [58]
theorem txtJ_next (g : Nat → Nat) (a n : Nat) : txtJ g a (n + 1) = txtJ g a n ++ (if n = 0 then [] else [58]) ++ hexT (g (a + n)) := by
  unfold txtJ
  rw [List.range'_concat, List.map_append, List.map_cons, List.map_nil, Nat.one_mul]
  by_cases h : n = 0
  · subst h; simp [Lib.join_one, Lib.join_nil]
  · rw [join_snoc _ _ (by simp [h]), if_neg h]; simp
/-- The text up to group i, with a gap of m groups from f on, if m is 2 or more. -/
def preF (g : Nat → Nat) (f m i : Nat) : List UInt8 := if m < 2 ∨ i ≤ f then txtJ g 0 i else txtJ g 0 f ++ 58 :: 58 :: txtJ g (f + m) (i - (f + m))
theorem pre_next {g : Nat → Nat} {f m i : Nat} (h : m < 2 ∨ i < f) : preF g f m (i + 1) = preF g f m i ++ (if i = 0 then [] else [58]) ++ hexT (g i) := by
  unfold preF
  rw [if_pos (by omega), if_pos (by omega), txtJ_next]; simp
theorem pre_gap {g : Nat → Nat} {f m : Nat} (h : 2 ≤ m) : preF g f m (f + m) = preF g f m f ++ [58, 58] := by
  unfold preF
  rw [if_neg (by omega), if_pos (by omega), Nat.sub_self]; rfl
theorem pre_after {g : Nat → Nat} {f m i : Nat} (h : 2 ≤ m) (hi : f + m ≤ i) : preF g f m (i + 1) = preF g f m i ++ (if i = f + m then [] else [58]) ++ hexT (g i) := by
  unfold preF
  rw [if_neg (by omega), if_neg (by omega), show i + 1 - (f + m) = (i - (f + m)) + 1 by omega, txtJ_next, show f + m + (i - (f + m)) = i by omega]
  by_cases e : i = f + m
  · rw [if_pos e, if_pos (by omega)]; simp
  · rw [if_neg e, if_neg (by omega)]; simp
end Go.Proofs.YthellfigmpjhlaaGreatDoor
