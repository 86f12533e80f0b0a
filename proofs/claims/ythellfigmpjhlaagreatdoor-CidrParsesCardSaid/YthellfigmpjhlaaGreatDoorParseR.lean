/- linkboyref02.Parse and what it calls, walked. -/
import Derived.Test.YthellfigmpjhlaaGreatDoorAddrW
import Derived.Test.YthellfigmpjhlaaGreatDoorFmt
namespace Go.Proofs.YthellfigmpjhlaaGreatDoor
open Go Go.RowKit
set_option linter.unusedVariables false
set_option linter.unusedSimpArgs false
abbrev zFParseR : Array Value := #[.bool false, .int .u8 0, .int .u8 0, .int .u8 0, .int .u8 0, .int .u8 0, .int .u8 0, .int .u8 0, .int .u8 0, .int .u8 0, .int .u8 0, .int .u8 0, .int .u8 0, .int .u8 0, .int .u8 0, .int .u8 0, .int .u8 0]
/-- The worth of one figure. -/
def figN (c : UInt8) : Int := if 48 ≤ c.toNat ∧ c.toNat ≤ 57 then (c.toNat : Int) - 48 else if 97 ≤ c.toNat ∧ c.toNat ≤ 102 then (c.toNat : Int) - 97 + 10 else if 65 ≤ c.toNat ∧ c.toNat ≤ 70 then (c.toNat : Int) - 65 + 10 else -1
theorem figN_bd (c : UInt8) : -1 ≤ figN c ∧ figN c ≤ 15 := by unfold figN; split; · omega
                                                              split; · omega
                                                              split <;> omega
def numGo (b : Int) : List UInt8 → Int → Int
  | [], n => n
  | c :: l, n => if figN c < 0 ∨ b ≤ figN c then -1 else numGo b l (n * b + figN c)
/-- What 'number' gives. -/
def numN (s : ByteArray) (b m : Int) : Int := if s.size < 1 ∨ m < s.size then -1 else numGo b s.data.toList 0
theorem num_no {s : ByteArray} {b m : Int} (h : s.size < 1 ∨ m < s.size) : numN s b m = -1 := if_pos h
theorem num_yes {s : ByteArray} {b m : Int} (h1 : ¬ (s.size : Int) < 1) (h2 : ¬ m < s.size) : numN s b m = numGo b s.data.toList 0 := if_neg (by omega)
theorem btB_eq {s : ByteArray} {i : Nat} (hi : i < s.data.toList.length) : btB s (i : Int) = s.data.toList[i] := by
  unfold btB
  rw [Int.toNat_natCast, Array.getElem?_eq_getElem (by simpa using hi), Option.getD_some]
  simp
theorem num_round {s : ByteArray} {b n : Int} {i : Nat} {x : Int} (h : x = numGo b (s.data.toList.drop i) n) (hi : i < s.data.toList.length) (h1 : ¬ figN (btB s i) < 0) (h2 : ¬ b ≤ figN (btB s i)) : x = numGo b (s.data.toList.drop (i + 1)) (n * b + figN (btB s i)) := by
  rw [h, List.drop_eq_getElem_cons hi, numGo, btB_eq hi, if_neg (by rw [btB_eq hi] at h1 h2; omega)]
theorem num_bad {s : ByteArray} {b n : Int} {i : Nat} {x : Int} (h : x = numGo b (s.data.toList.drop i) n) (hi : i < s.data.toList.length) (h1 : figN (btB s i) < 0 ∨ b ≤ figN (btB s i)) : x = -1 := by
  rw [h, List.drop_eq_getElem_cons hi, numGo, if_pos (by rwa [btB_eq hi] at h1)]
theorem num_end {l : List UInt8} {b n : Int} {i : Nat} {x : Int} (h : x = numGo b (l.drop i) n) (hi : l.length ≤ i) : x = n := by
  rw [h, List.drop_eq_nil_of_le hi]; rfl
/-- One byte of the reference's split. -/
def spStep (c : UInt8) (l : List ByteArray) (b : UInt8) : List ByteArray := if b = c then l ++ [⟨#[]⟩] else l.set (l.length - 1) (nth l (l.length - 1) ++ ⟨#[b]⟩)
def spGo (c : UInt8) (l : List UInt8) : List ByteArray := l.foldl (spStep c) [⟨#[]⟩]
def spR (s : ByteArray) (c : UInt8) : List ByteArray := spGo c s.data.toList
theorem spGo_len (c : UInt8) (l : List UInt8) (a : List ByteArray) : (l.foldl (spStep c) a).length ≤ a.length + l.length ∧ a.length ≤ (l.foldl (spStep c) a).length := by
  induction l generalizing a with
  | nil => simp
  | cons b l ih =>
    have h := ih (spStep c a b)
    have h1 : (spStep c a b).length = a.length + 1 ∨ (spStep c a b).length = a.length := by
      unfold spStep; split
      · exact .inl (by simp)
      · exact .inr (by simp)
    rw [List.foldl_cons, List.length_cons]
    omega
theorem spGo_bd (c : UInt8) (l : List UInt8) : 1 ≤ (spGo c l).length ∧ (spGo c l).length ≤ l.length + 1 := by
  have h := spGo_len c l [⟨#[]⟩]
  rw [List.length_singleton] at h
  unfold spGo
  omega
theorem sp_next {s : ByteArray} {c : UInt8} {i : Nat} {l : List ByteArray} (hi : i < s.data.toList.length) (h : l = spGo c (s.data.toList.take i)) : spGo c (s.data.toList.take (i + 1)) = spStep c l (btB s (i : Int)) := by
  rw [h, btB_eq hi, spGo, spGo, ← List.take_append_getElem hi, List.foldl_append]
  rfl
theorem sp_len {s : ByteArray} {c : UInt8} {i : Nat} {l : List ByteArray} (h : l = spGo c (s.data.toList.take i)) : 1 ≤ l.length ∧ l.length ≤ i + 1 := by
  have h1 := spGo_bd c (s.data.toList.take i)
  have h2 : (s.data.toList.take i).length ≤ i := List.length_take_le ..
  rw [h]
  omega
theorem sp_hit {s : ByteArray} {c : UInt8} {i : Nat} {l : List ByteArray} (hi : i < s.data.toList.length) (h : l = spGo c (s.data.toList.take i)) (he : btB s (i : Int) = c) : l ++ ([⟨#[]⟩] : List ByteArray) = spGo c (s.data.toList.take (i + 1)) := by
  rw [sp_next hi h, spStep, if_pos he]
theorem ext_one {s : ByteArray} {i : Nat} (hi : i < s.data.toList.length) : s.extract ((i : Int).toNat) (((i : Int) + 1).toNat) = ⟨#[btB s (i : Int)]⟩ := by
  rw [btB_eq hi]
  refine ByteArray.ext (Array.toList_inj.1 ?_)
  rw [ByteArray.data_extract, Array.toList_extract, List.extract_eq_take_drop, show ((i : Int) + 1).toNat - (i : Int).toNat = 1 by omega, Int.toNat_natCast, List.drop_eq_getElem_cons hi]
  rfl
theorem sp_miss {s : ByteArray} {c : UInt8} {i : Nat} {l : List ByteArray} (hi : i < s.data.toList.length) (h : l = spGo c (s.data.toList.take i)) (he : ¬ btB s (i : Int) = c) : l.set (((l.length : Int) - 1).toNat) ((nth l (((l.length : Int) - 1).toNat)) ++ (s.extract ((i : Int).toNat) (((i : Int) + 1).toNat))) = spGo c (s.data.toList.take (i + 1)) := by
  rw [sp_next hi h, spStep, if_neg he, ext_one hi, show ((l.length : Int) - 1).toNat = l.length - 1 by omega]
theorem spGo_size (c : UInt8) (l : List UInt8) : ∀ (a : List ByteArray) (m : Nat), (∀ x ∈ a, x.size ≤ m) → ∀ x ∈ l.foldl (spStep c) a, x.size ≤ m + l.length := by
  induction l with
  | nil => intro a m h x hx; exact h x hx
  | cons b l ih =>
    intro a m h x hx
    have h1 : ∀ y ∈ spStep c a b, y.size ≤ m + 1 := by
      intro y hy
      unfold spStep at hy
      split at hy
      · rcases List.mem_append.1 hy with hy | hy
        · have := h y hy; omega
        · rw [List.mem_singleton.1 hy]; exact Nat.zero_le _
      · rcases List.mem_or_eq_of_mem_set hy with hy | hy
        · have := h y hy; omega
        · rw [hy, ByteArray.size_append]
          by_cases hn : a.length - 1 < a.length
          · have := h _ (nth_mem hn); show _ + 1 ≤ _; omega
          · have ha : a = [] := List.eq_nil_of_length_eq_zero (by omega)
            subst ha
            show 0 + 1 ≤ m + 1
            omega
    have := ih (spStep c a b) (m + 1) h1 x hx
    rw [List.length_cons]
    omega
theorem sp_elsize {s : ByteArray} {c : UInt8} {i : Nat} {l : List ByteArray} (h : l = spGo c (s.data.toList.take i)) (x : ByteArray) (hx : x ∈ l) : x.size ≤ i := by
  rw [h] at hx
  have h2 : (s.data.toList.take i).length ≤ i := List.length_take_le ..
  have := spGo_size c _ _ 0 (fun y hy => by rw [List.mem_singleton.1 hy]; exact Nat.le_refl _) x hx
  omega
theorem sp_end {s : ByteArray} {c : UInt8} {i : Nat} {l : List ByteArray} (h : l = spGo c (s.data.toList.take i)) (hi : s.data.toList.length ≤ i) : l = spR s c := by
  rw [h, List.take_of_length_le hi]; rfl
theorem u8_eq {x c : UInt8} (h : (x.toNat : Int) = (c.toNat : Int)) : x = c := UInt8.toNat_inj.1 (by omega)
theorem u8_ne {x c : UInt8} (h : ¬ (x.toNat : Int) = (c.toNat : Int)) : ¬ x = c := fun e => h (by rw [e])
theorem sp_both {s : ByteArray} {c : UInt8} {i : Nat} {l : List ByteArray} (h : l = spGo c (s.data.toList.take i)) : l = spGo c (s.data.toList.take i) ∧ 1 ≤ l.length ∧ l.length ≤ i + 1 := ⟨h, sp_len h⟩
theorem sp_fold (c : UInt8) : ∀ (l : List UInt8) (A : List ByteArray) (x : ByteArray), ∃ h t, spl c l = h :: t ∧ (l.foldl (spStep c) (A ++ [x])).map (·.data.toList) = A.map (·.data.toList) ++ (x.data.toList ++ h) :: t := by
  intro l
  induction l with
  | nil => intro A x; exact ⟨[], [], rfl, by simp⟩
  | cons b l ih =>
    intro A x
    rw [List.foldl_cons]
    by_cases e : b = c
    · obtain ⟨h, t, hs, hf⟩ := ih (A ++ [x]) ⟨#[]⟩
      refine ⟨[], h :: t, ?_, ?_⟩
      · unfold spl; simp [e, hs]
      · rw [spStep, if_pos e, hf]; simp
    · obtain ⟨h, t, hs, hf⟩ := ih A (x ++ ⟨#[b]⟩)
      refine ⟨b :: h, t, ?_, ?_⟩
      · unfold spl; simp [e, hs]
      · have h1 : (A ++ [x]).length - 1 = A.length := by simp
        have h2 : nth (A ++ [x]) A.length = x := by rw [nth_eq (by simp)]; simp
        rw [spStep, if_neg e, h1, h2, show (A ++ [x]).set A.length (x ++ ⟨#[b]⟩) = A ++ [x ++ ⟨#[b]⟩] by simp, hf]
        simp
theorem map_inj {a : List ByteArray} : ∀ {b : List ByteArray}, a.map (·.data.toList) = b.map (·.data.toList) → a = b := by
  induction a with
  | nil => intro b h; cases b with
    | nil => rfl
    | cons y b => simp at h
  | cons x a ih =>
    intro b h
    cases b with
    | nil => simp at h
    | cons y b =>
      rw [List.map_cons, List.map_cons, List.cons.injEq] at h
      rw [ih h.2, ByteArray.ext (Array.toList_inj.1 h.1)]
theorem spR_eq (s : ByteArray) (c : UInt8) : spR s c = splitOn s c := by
  refine map_inj ?_
  obtain ⟨h, t, hs, hf⟩ := sp_fold c s.data.toList [] ⟨#[]⟩
  refine Eq.trans hf ?_
  rw [List.map_nil, List.nil_append]
  show h :: t = _
  rw [← hs]
  refine Eq.symm (Eq.trans (Lib.splitB_data ⟨#[c]⟩ 0 _ s) ?_)
  exact spl_index c _ _ (Lib.count_one c _).symm
/-- The reference's reading of one octet. -/
def fdL (l : List UInt8) : Int := if l.length < 1 ∨ 3 < l.length then -1 else numGo 10 l 0
def fdBad (l : List UInt8) : Bool := decide (fdL l < 0) || decide (255 < fdL l) || (decide (1 < l.length) && decide (l.headD 0 = 48))
def fdB (l : List UInt8) : Int := if fdBad l then -1 else fdL l
def decT' (l : List UInt8) : Int := match Lib.parseUintB 8 l with | .ok u => if l.length > 3 ∨ ¬ decT u = l then -1 else (u : Int) | _ => -1
theorem decL_T (l : List UInt8) : decL l = decT' l := by
  unfold decL decT'
  cases h : Lib.parseUintB 8 l with
  | ok u =>
    have := Lib.parseUintB_le h
    dsimp only
    rw [decT_itoa (by omega)]
  | «syntax» => rfl
  | range => rfl
theorem fd3 : ∀ a b c : Fin 10, decT' [UInt8.ofNat (48 + a.val), UInt8.ofNat (48 + b.val), UInt8.ofNat (48 + c.val)] = fdB [UInt8.ofNat (48 + a.val), UInt8.ofNat (48 + b.val), UInt8.ofNat (48 + c.val)] := by decide +kernel
theorem fd2 : ∀ a b : Fin 10, decT' [UInt8.ofNat (48 + a.val), UInt8.ofNat (48 + b.val)] = fdB [UInt8.ofNat (48 + a.val), UInt8.ofNat (48 + b.val)] := by decide +kernel
theorem fd1 : ∀ a : Fin 10, decT' [UInt8.ofNat (48 + a.val)] = fdB [UInt8.ofNat (48 + a.val)] := by decide +kernel
theorem dig_or (c : UInt8) : (∃ d : Fin 10, c = UInt8.ofNat (48 + d.val)) ∨ ¬ (48 ≤ c.toNat ∧ c.toNat ≤ 57) := by
  by_cases h : 48 ≤ c.toNat ∧ c.toNat ≤ 57
  · exact .inl ⟨⟨c.toNat - 48, by omega⟩, UInt8.toNat_inj.1 (by simp; omega)⟩
  · exact .inr h
theorem fig_no {c : UInt8} (h : ¬ (48 ≤ c.toNat ∧ c.toNat ≤ 57)) : figN c < 0 ∨ 10 ≤ figN c := by
  unfold figN
  rw [if_neg h]
  split
  · omega
  · split <;> omega
theorem pu_no {M : Nat} : ∀ {l : List UInt8} {acc : Nat}, (∃ c ∈ l, ¬ (48 ≤ c.toNat ∧ c.toNat ≤ 57)) → ∀ u, Lib.parseUintM M acc l ≠ .ok u
  | [], _, ⟨_, h, _⟩, _ => absurd h (by simp)
  | c :: r, acc, ⟨x, hx, hn⟩, u => by
    unfold Lib.parseUintM
    split
    · rename_i hd
      have hr : ∃ c ∈ r, ¬ (48 ≤ c.toNat ∧ c.toNat ≤ 57) := by
        rcases List.mem_cons.1 hx with rfl | hx
        · exact absurd hd hn
        · exact ⟨x, hx, hn⟩
      split
      · simp
      · split
        · simp
        · exact pu_no hr u
    · simp
theorem ng_no : ∀ {l : List UInt8} {n : Int}, (∃ c ∈ l, ¬ (48 ≤ c.toNat ∧ c.toNat ≤ 57)) → numGo 10 l n = -1
  | [], _, ⟨_, h, _⟩ => absurd h (by simp)
  | c :: r, n, ⟨x, hx, hn⟩ => by
    unfold numGo
    split
    · rfl
    · rename_i hd
      refine ng_no ?_
      rcases List.mem_cons.1 hx with rfl | hx
      · exact absurd (fig_no hn) hd
      · exact ⟨x, hx, hn⟩
theorem fd_no {l : List UInt8} (h : ∃ c ∈ l, ¬ (48 ≤ c.toNat ∧ c.toNat ≤ 57)) : decT' l = fdB l := by
  have h1 : decT' l = -1 := by
    unfold decT' Lib.parseUintB
    split
    · rename_i u hu
      split at hu
      · cases hu
      · exact absurd hu (pu_no h u)
    · rfl
  have h2 : fdL l = -1 := by
    unfold fdL
    split
    · rfl
    · exact ng_no h
  rw [h1, fdB, fdBad, h2]
  rfl
theorem decL_fd (l : List UInt8) : decL l = fdB l := by
  rw [decL_T]
  by_cases h : ∃ c ∈ l, ¬ (48 ≤ c.toNat ∧ c.toNat ≤ 57)
  · exact fd_no h
  have hd : ∀ c ∈ l, ∃ d : Fin 10, c = UInt8.ofNat (48 + d.val) := fun c hc => (dig_or c).resolve_right fun hn => h ⟨c, hc, hn⟩
  match l, hd with
  | [], _ => rfl
  | [a], hd =>
    obtain ⟨x, rfl⟩ := hd a (by simp)
    exact fd1 x
  | [a, b], hd =>
    obtain ⟨x, rfl⟩ := hd a (by simp)
    obtain ⟨y, rfl⟩ := hd b (by simp)
    exact fd2 x y
  | [a, b, c], hd =>
    obtain ⟨x, rfl⟩ := hd a (by simp)
    obtain ⟨y, rfl⟩ := hd b (by simp)
    obtain ⟨z, rfl⟩ := hd c (by simp)
    exact fd3 x y z
  | a :: b :: c :: d :: r, _ =>
    have h2 : fdL (a :: b :: c :: d :: r) = -1 := by unfold fdL; rw [if_pos (by simp only [List.length_cons]; omega)]
    have h1 : decT' (a :: b :: c :: d :: r) = -1 := by
      unfold decT'
      split
      · rw [if_pos (.inl (by simp only [List.length_cons]; omega))]
      · rfl
    rw [h1, fdB, fdBad, h2]
    rfl
theorem fdL_num (s : ByteArray) : numN s 10 3 = fdL s.data.toList := by
  have hll : s.data.toList.length = s.size := Array.length_toList
  unfold numN fdL
  by_cases h : s.size < 1 ∨ (3 : Int) < s.size
  · rw [if_pos h, if_pos (by omega)]
  · rw [if_neg h, if_neg (by omega)]
theorem head_bt (s : ByteArray) (h : 0 < s.size) : s.data.toList.headD 0 = btB s 0 := by
  have hll : s.data.toList.length = s.size := Array.length_toList
  have := btB_eq (s := s) (i := 0) (by omega)
  rw [show ((0 : Nat) : Int) = 0 from rfl] at this
  rw [this]
  have : ∀ (l : List UInt8) (hl : 0 < l.length), l.headD 0 = l[0] := fun l hl => by cases l with
    | nil => simp at hl
    | cons a r => rfl
  exact this _ _
theorem decP_bad {s : ByteArray} (h : numN s 10 3 < 0 ∨ 255 < numN s 10 3 ∨ ((1 : Int) < s.size ∧ btB s 0 = 48)) : decP s < 0 := by
  have hll : s.data.toList.length = s.size := Array.length_toList
  rw [decP_L, decL_fd, fdB, if_pos]
  · decide
  · rw [fdBad, ← fdL_num]
    rcases h with h | h | ⟨h1, h2⟩
    · simp [h]
    · simp [h]
    · rw [head_bt s (by omega), h2]; simp; omega
theorem decP_good {s : ByteArray} (h1 : ¬ numN s 10 3 < 0) (h2 : ¬ 255 < numN s 10 3) (h3 : ¬ ((1 : Int) < s.size ∧ btB s 0 = 48)) : decP s = numN s 10 3 := by
  have hll : s.data.toList.length = s.size := Array.length_toList
  rw [decP_L, decL_fd, fdB, if_neg, fdL_num]
  rw [fdBad, ← fdL_num]
  intro h
  simp only [Bool.or_eq_true, Bool.and_eq_true, decide_eq_true_iff] at h
  rcases h with (h | h) | ⟨ha, hb⟩
  · exact h1 h
  · exact h2 h
  · exact h3 ⟨by omega, by rw [← head_bt s (by omega)]; exact hb⟩
def fAcc (l : List ByteArray) : Nat → Ip
  | 0 => noIp
  | i + 1 => (fAcc l i).set i (ub (numN (nth l i) 10 3))
theorem fAcc_eq {l : List ByteArray} : ∀ {i : Nat}, (∀ j, j < i → 0 ≤ numN (nth l j) 10 3 ∧ decP (nth l j) = numN (nth l j) 10 3) → fAcc l i = dotAcc l i
  | 0, _ => rfl
  | i + 1, h => by rw [fAcc, dotAcc, fAcc_eq fun j hj => h j (by omega), (h i (by omega)).2]
def retOk (r : Option Ip) : Value := .tuple #[ipV (r.getD noIp), .bool r.isSome]
theorem four_round {l : List ByteArray} {i : Nat} (h : ∀ j, j < i → 0 ≤ numN (nth l j) 10 3 ∧ decP (nth l j) = numN (nth l j) 10 3) (h1 : ¬ numN (nth l i) 10 3 < 0) (h2 : ¬ 255 < numN (nth l i) 10 3) (h3 : ¬ ((1 : Int) < (nth l i).size ∧ btB (nth l i) 0 = 48)) : ∀ j, j < i + 1 → 0 ≤ numN (nth l j) 10 3 ∧ decP (nth l j) = numN (nth l j) 10 3 := fun j hj => by
  by_cases e : j = i
  · subst e; exact ⟨by omega, decP_good h1 h2 h3⟩
  · exact h j (by omega)
theorem four_ok {s : ByteArray} (h4 : ((splitOn s 46).length : Int) = 4) (h : ∀ j, j < 4 → 0 ≤ numN (nth (splitOn s 46) j) 10 3 ∧ decP (nth (splitOn s 46) j) = numN (nth (splitOn s 46) j) 10 3) : dotP s = some (fAcc (splitOn s 46) 4) := by
  rw [fAcc_eq h]
  exact dot_ok h4 fun j hj => by have := h j hj; omega
theorem q16 (i : Nat) (h : i < 5) : (16 : Int) ^ i ≤ 65536 ∧ (16 : Int) ^ (i + 1) = 16 ^ i * 16 := by
  refine ⟨?_, Int.pow_succ ..⟩
  match i, h with
  | 0, _ | 1, _ | 2, _ | 3, _ | 4, _ => decide
  | n + 5, h => omega

set_option maxRecDepth 20000 in
theorem ref02_figure (c : UInt8) (W : World) : Ret Tryz.prog 141 #[.int .u8 ((c.toNat : Int))] W fun v W' => v = .int .i64 (figN c) ∧ Own W noX [] W' := by
 have hc := c.toNat_lt
 refine enter Tryz.func141 rfl (n := 32) rfl (by kernel_rfl) (E0 := [(0, .int .u8 ((c.toNat : Int)))]) (by kernel_rfl) ?_
 intro a hF; have hO := Own.start W noX
 refine wp_seq_k fun K1 hK1 => ?_
 refine wp_region_lit ?_
 refine Vp hF (.int .i64 0) ?_; clear hF; intro a hF
 refine L_nil ?_
 refine hK1 _ _ ?_
 refine wp_seq_k fun K2 hK2 => ?_
 refine wp_seq_k fun K3 hK3 => ?_
 refine wp_region_lit ?_
 refine Vp hF (.int .u8 ((c.toNat : Int))) ?_; clear hF; intro a hF
 refine Vp hF (.bool (decide ((c.toNat : Int) ≥ 48))) ?_; clear hF; intro a hF
 refine Vp hF (.bool (decide ((c.toNat : Int) ≥ 48))) ?_; clear hF; intro a hF
 by_cases q1 : (c.toNat : Int) ≥ 48
 ·
  replace hF := hF.know (d := 5) (v' := .bool true) (by kernel_rfl) (congrArg Value.bool (decide_eq_true q1))
  refine Vp hF (.int .u8 ((c.toNat : Int))) ?_; clear hF; intro a hF
  refine Vp hF (.bool (decide ((c.toNat : Int) ≤ 57))) ?_; clear hF; intro a hF
  refine Vp hF (.bool (decide ((c.toNat : Int) ≤ 57))) ?_; clear hF; intro a hF
  refine L_nil ?_
  refine hK3 _ _ ?_
  by_cases q2 : (c.toNat : Int) ≤ 57
  ·
   replace hF := hF.know (d := 8) (v' := .bool true) (by kernel_rfl) (congrArg Value.bool (decide_eq_true q2))
   refine cond_t hF (by kernel_rfl) (by kernel_rfl) ?_
   refine wp_seq_k fun K4 hK4 => ?_
   refine wp_region_lit ?_
   refine Vp hF (.int .u8 ((c.toNat : Int))) ?_; clear hF; intro a hF
   refine Vr hF (.int .i64 ((c.toNat : Int))) (x_int (x := IntKind.i64.wrap ((c.toNat : Int))) (i64In (by have := UInt8.toNat_lt c; omega) (by have := UInt8.toNat_lt c; omega)) (by kernel_rfl)) ?_; clear hF; intro a hF
   refine Vr hF (.int .i64 ((c.toNat : Int) - 48)) (x_int (x := IntKind.i64.wrap ((c.toNat : Int) - 48)) (i64In (by omega) (by omega)) (by kernel_rfl)) ?_; clear hF; intro a hF
   refine Vp hF (.int .i64 ((c.toNat : Int) - 48)) ?_; clear hF; intro a hF
   refine L_nil ?_
   refine hK4 _ _ ?_
   refine wp_ret ?_
   refine then_ret ?_
   refine ret1 hF (v := .int .i64 ((c.toNat : Int) - 48)) rfl (resT (by kernel_rfl)) (by refine ⟨?_, hO.nil⟩; unfold figN; first | rfl | (refine congrArg (Value.int _) ?_; (repeat' split) <;> omega)) .ret (.inl rfl)
  ·
   replace hF := hF.know (d := 8) (v' := .bool false) (by kernel_rfl) (congrArg Value.bool (decide_eq_false q2))
   refine cond_f hF (by kernel_rfl) (by kernel_rfl) ?_
   refine wp_skip ?_
   refine hK2 _ _ ?_
   refine wp_seq_k fun K5 hK5 => ?_
   refine wp_seq_k fun K6 hK6 => ?_
   refine wp_region_lit ?_
   refine Vp hF (.int .u8 ((c.toNat : Int))) ?_; clear hF; intro a hF
   refine Vp hF (.bool (decide ((c.toNat : Int) ≥ 97))) ?_; clear hF; intro a hF
   refine Vp hF (.bool (decide ((c.toNat : Int) ≥ 97))) ?_; clear hF; intro a hF
   by_cases q3 : (c.toNat : Int) ≥ 97
   ·
    replace hF := hF.know (d := 14) (v' := .bool true) (by kernel_rfl) (congrArg Value.bool (decide_eq_true q3))
    refine Vp hF (.int .u8 ((c.toNat : Int))) ?_; clear hF; intro a hF
    refine Vp hF (.bool (decide ((c.toNat : Int) ≤ 102))) ?_; clear hF; intro a hF
    refine Vp hF (.bool (decide ((c.toNat : Int) ≤ 102))) ?_; clear hF; intro a hF
    refine L_nil ?_
    refine hK6 _ _ ?_
    by_cases q4 : (c.toNat : Int) ≤ 102
    ·
     replace hF := hF.know (d := 17) (v' := .bool true) (by kernel_rfl) (congrArg Value.bool (decide_eq_true q4))
     refine cond_t hF (by kernel_rfl) (by kernel_rfl) ?_
     refine wp_seq_k fun K7 hK7 => ?_
     refine wp_region_lit ?_
     refine Vp hF (.int .u8 ((c.toNat : Int))) ?_; clear hF; intro a hF
     refine Vr hF (.int .i64 ((c.toNat : Int))) (x_int (x := IntKind.i64.wrap ((c.toNat : Int))) (i64In (by have := UInt8.toNat_lt c; omega) (by have := UInt8.toNat_lt c; omega)) (by kernel_rfl)) ?_; clear hF; intro a hF
     refine Vr hF (.int .i64 ((c.toNat : Int) - 97)) (x_int (x := IntKind.i64.wrap ((c.toNat : Int) - 97)) (i64In (by omega) (by omega)) (by kernel_rfl)) ?_; clear hF; intro a hF
     refine Vr hF (.int .i64 ((c.toNat : Int) - 97 + 10)) (x_int (x := IntKind.i64.wrap ((c.toNat : Int) - 97 + 10)) (i64In (by omega) (by omega)) (by kernel_rfl)) ?_; clear hF; intro a hF
     refine Vp hF (.int .i64 ((c.toNat : Int) - 97 + 10)) ?_; clear hF; intro a hF
     refine L_nil ?_
     refine hK7 _ _ ?_
     refine wp_ret ?_
     refine then_ret ?_
     refine ret1 hF (v := .int .i64 ((c.toNat : Int) - 97 + 10)) rfl (resT (by kernel_rfl)) (by refine ⟨?_, hO.nil⟩; unfold figN; first | rfl | (refine congrArg (Value.int _) ?_; (repeat' split) <;> omega)) .ret (.inl rfl)
    ·
     replace hF := hF.know (d := 17) (v' := .bool false) (by kernel_rfl) (congrArg Value.bool (decide_eq_false q4))
     refine cond_f hF (by kernel_rfl) (by kernel_rfl) ?_
     refine wp_skip ?_
     refine hK5 _ _ ?_
     refine wp_seq_k fun K8 hK8 => ?_
     refine wp_seq_k fun K9 hK9 => ?_
     refine wp_region_lit ?_
     refine Vp hF (.int .u8 ((c.toNat : Int))) ?_; clear hF; intro a hF
     refine Vp hF (.bool (decide ((c.toNat : Int) ≥ 65))) ?_; clear hF; intro a hF
     refine Vp hF (.bool (decide ((c.toNat : Int) ≥ 65))) ?_; clear hF; intro a hF
     by_cases q5 : (c.toNat : Int) ≥ 65
     ·
      replace hF := hF.know (d := 24) (v' := .bool true) (by kernel_rfl) (congrArg Value.bool (decide_eq_true q5))
      refine Vp hF (.int .u8 ((c.toNat : Int))) ?_; clear hF; intro a hF
      refine Vp hF (.bool (decide ((c.toNat : Int) ≤ 70))) ?_; clear hF; intro a hF
      refine Vp hF (.bool (decide ((c.toNat : Int) ≤ 70))) ?_; clear hF; intro a hF
      refine L_nil ?_
      refine hK9 _ _ ?_
      by_cases q6 : (c.toNat : Int) ≤ 70
      ·
       replace hF := hF.know (d := 27) (v' := .bool true) (by kernel_rfl) (congrArg Value.bool (decide_eq_true q6))
       refine cond_t hF (by kernel_rfl) (by kernel_rfl) ?_
       refine wp_seq_k fun K10 hK10 => ?_
       refine wp_region_lit ?_
       refine Vp hF (.int .u8 ((c.toNat : Int))) ?_; clear hF; intro a hF
       refine Vr hF (.int .i64 ((c.toNat : Int))) (x_int (x := IntKind.i64.wrap ((c.toNat : Int))) (i64In (by have := UInt8.toNat_lt c; omega) (by have := UInt8.toNat_lt c; omega)) (by kernel_rfl)) ?_; clear hF; intro a hF
       refine Vr hF (.int .i64 ((c.toNat : Int) - 65)) (x_int (x := IntKind.i64.wrap ((c.toNat : Int) - 65)) (i64In (by omega) (by omega)) (by kernel_rfl)) ?_; clear hF; intro a hF
       refine Vr hF (.int .i64 ((c.toNat : Int) - 65 + 10)) (x_int (x := IntKind.i64.wrap ((c.toNat : Int) - 65 + 10)) (i64In (by omega) (by omega)) (by kernel_rfl)) ?_; clear hF; intro a hF
       refine Vp hF (.int .i64 ((c.toNat : Int) - 65 + 10)) ?_; clear hF; intro a hF
       refine L_nil ?_
       refine hK10 _ _ ?_
       refine wp_ret ?_
       refine then_ret ?_
       refine ret1 hF (v := .int .i64 ((c.toNat : Int) - 65 + 10)) rfl (resT (by kernel_rfl)) (by refine ⟨?_, hO.nil⟩; unfold figN; first | rfl | (refine congrArg (Value.int _) ?_; (repeat' split) <;> omega)) .ret (.inl rfl)
      ·
       replace hF := hF.know (d := 27) (v' := .bool false) (by kernel_rfl) (congrArg Value.bool (decide_eq_false q6))
       refine cond_f hF (by kernel_rfl) (by kernel_rfl) ?_
       refine wp_skip ?_
       refine hK8 _ _ ?_
       refine wp_seq_k fun K11 hK11 => ?_
       refine wp_region_lit ?_
       refine Vp hF (.int .i64 (-1)) ?_; clear hF; intro a hF
       refine L_nil ?_
       refine hK11 _ _ ?_
       refine wp_ret ?_
       refine ret1 hF (v := .int .i64 (-1)) rfl (resT (by kernel_rfl)) (by refine ⟨?_, hO.nil⟩; unfold figN; first | rfl | (refine congrArg (Value.int _) ?_; (repeat' split) <;> omega)) .ret (.inl rfl)
     ·
      replace hF := hF.know (d := 24) (v' := .bool false) (by kernel_rfl) (congrArg Value.bool (decide_eq_false q5))
      refine Lo hF ?_; clear hF; intro a hF
      refine Lo hF ?_; clear hF; intro a hF
      refine Vp hF (.bool false) ?_; clear hF; intro a hF
      refine L_nil ?_
      refine hK9 _ _ ?_
      refine cond_f hF (by kernel_rfl) (by kernel_rfl) ?_
      refine wp_skip ?_
      refine hK8 _ _ ?_
      refine wp_seq_k fun K12 hK12 => ?_
      refine wp_region_lit ?_
      refine Vp hF (.int .i64 (-1)) ?_; clear hF; intro a hF
      refine L_nil ?_
      refine hK12 _ _ ?_
      refine wp_ret ?_
      refine ret1 hF (v := .int .i64 (-1)) rfl (resT (by kernel_rfl)) (by refine ⟨?_, hO.nil⟩; unfold figN; first | rfl | (refine congrArg (Value.int _) ?_; (repeat' split) <;> omega)) .ret (.inl rfl)
   ·
    replace hF := hF.know (d := 14) (v' := .bool false) (by kernel_rfl) (congrArg Value.bool (decide_eq_false q3))
    refine Lo hF ?_; clear hF; intro a hF
    refine Lo hF ?_; clear hF; intro a hF
    refine Vp hF (.bool false) ?_; clear hF; intro a hF
    refine L_nil ?_
    refine hK6 _ _ ?_
    refine cond_f hF (by kernel_rfl) (by kernel_rfl) ?_
    refine wp_skip ?_
    refine hK5 _ _ ?_
    refine wp_seq_k fun K13 hK13 => ?_
    refine wp_seq_k fun K14 hK14 => ?_
    refine wp_region_lit ?_
    refine Vp hF (.int .u8 ((c.toNat : Int))) ?_; clear hF; intro a hF
    refine Vp hF (.bool (decide ((c.toNat : Int) ≥ 65))) ?_; clear hF; intro a hF
    refine Vp hF (.bool (decide ((c.toNat : Int) ≥ 65))) ?_; clear hF; intro a hF
    by_cases q7 : (c.toNat : Int) ≥ 65
    ·
     replace hF := hF.know (d := 24) (v' := .bool true) (by kernel_rfl) (congrArg Value.bool (decide_eq_true q7))
     refine Vp hF (.int .u8 ((c.toNat : Int))) ?_; clear hF; intro a hF
     refine Vp hF (.bool (decide ((c.toNat : Int) ≤ 70))) ?_; clear hF; intro a hF
     refine Vp hF (.bool (decide ((c.toNat : Int) ≤ 70))) ?_; clear hF; intro a hF
     refine L_nil ?_
     refine hK14 _ _ ?_
     by_cases q8 : (c.toNat : Int) ≤ 70
     ·
      replace hF := hF.know (d := 27) (v' := .bool true) (by kernel_rfl) (congrArg Value.bool (decide_eq_true q8))
      refine cond_t hF (by kernel_rfl) (by kernel_rfl) ?_
      refine wp_seq_k fun K15 hK15 => ?_
      refine wp_region_lit ?_
      refine Vp hF (.int .u8 ((c.toNat : Int))) ?_; clear hF; intro a hF
      refine Vr hF (.int .i64 ((c.toNat : Int))) (x_int (x := IntKind.i64.wrap ((c.toNat : Int))) (i64In (by have := UInt8.toNat_lt c; omega) (by have := UInt8.toNat_lt c; omega)) (by kernel_rfl)) ?_; clear hF; intro a hF
      refine Vr hF (.int .i64 ((c.toNat : Int) - 65)) (x_int (x := IntKind.i64.wrap ((c.toNat : Int) - 65)) (i64In (by omega) (by omega)) (by kernel_rfl)) ?_; clear hF; intro a hF
      refine Vr hF (.int .i64 ((c.toNat : Int) - 65 + 10)) (x_int (x := IntKind.i64.wrap ((c.toNat : Int) - 65 + 10)) (i64In (by omega) (by omega)) (by kernel_rfl)) ?_; clear hF; intro a hF
      refine Vp hF (.int .i64 ((c.toNat : Int) - 65 + 10)) ?_; clear hF; intro a hF
      refine L_nil ?_
      refine hK15 _ _ ?_
      refine wp_ret ?_
      refine then_ret ?_
      refine ret1 hF (v := .int .i64 ((c.toNat : Int) - 65 + 10)) rfl (resT (by kernel_rfl)) (by refine ⟨?_, hO.nil⟩; unfold figN; first | rfl | (refine congrArg (Value.int _) ?_; (repeat' split) <;> omega)) .ret (.inl rfl)
     ·
      replace hF := hF.know (d := 27) (v' := .bool false) (by kernel_rfl) (congrArg Value.bool (decide_eq_false q8))
      refine cond_f hF (by kernel_rfl) (by kernel_rfl) ?_
      refine wp_skip ?_
      refine hK13 _ _ ?_
      refine wp_seq_k fun K16 hK16 => ?_
      refine wp_region_lit ?_
      refine Vp hF (.int .i64 (-1)) ?_; clear hF; intro a hF
      refine L_nil ?_
      refine hK16 _ _ ?_
      refine wp_ret ?_
      refine ret1 hF (v := .int .i64 (-1)) rfl (resT (by kernel_rfl)) (by refine ⟨?_, hO.nil⟩; unfold figN; first | rfl | (refine congrArg (Value.int _) ?_; (repeat' split) <;> omega)) .ret (.inl rfl)
    ·
     replace hF := hF.know (d := 24) (v' := .bool false) (by kernel_rfl) (congrArg Value.bool (decide_eq_false q7))
     refine Lo hF ?_; clear hF; intro a hF
     refine Lo hF ?_; clear hF; intro a hF
     refine Vp hF (.bool false) ?_; clear hF; intro a hF
     refine L_nil ?_
     refine hK14 _ _ ?_
     refine cond_f hF (by kernel_rfl) (by kernel_rfl) ?_
     refine wp_skip ?_
     refine hK13 _ _ ?_
     refine wp_seq_k fun K17 hK17 => ?_
     refine wp_region_lit ?_
     refine Vp hF (.int .i64 (-1)) ?_; clear hF; intro a hF
     refine L_nil ?_
     refine hK17 _ _ ?_
     refine wp_ret ?_
     refine ret1 hF (v := .int .i64 (-1)) rfl (resT (by kernel_rfl)) (by refine ⟨?_, hO.nil⟩; unfold figN; first | rfl | (refine congrArg (Value.int _) ?_; (repeat' split) <;> omega)) .ret (.inl rfl)
 ·
  replace hF := hF.know (d := 5) (v' := .bool false) (by kernel_rfl) (congrArg Value.bool (decide_eq_false q1))
  refine Lo hF ?_; clear hF; intro a hF
  refine Lo hF ?_; clear hF; intro a hF
  refine Vp hF (.bool false) ?_; clear hF; intro a hF
  refine L_nil ?_
  refine hK3 _ _ ?_
  refine cond_f hF (by kernel_rfl) (by kernel_rfl) ?_
  refine wp_skip ?_
  refine hK2 _ _ ?_
  refine wp_seq_k fun K18 hK18 => ?_
  refine wp_seq_k fun K19 hK19 => ?_
  refine wp_region_lit ?_
  refine Vp hF (.int .u8 ((c.toNat : Int))) ?_; clear hF; intro a hF
  refine Vp hF (.bool (decide ((c.toNat : Int) ≥ 97))) ?_; clear hF; intro a hF
  refine Vp hF (.bool (decide ((c.toNat : Int) ≥ 97))) ?_; clear hF; intro a hF
  by_cases q9 : (c.toNat : Int) ≥ 97
  ·
   replace hF := hF.know (d := 14) (v' := .bool true) (by kernel_rfl) (congrArg Value.bool (decide_eq_true q9))
   refine Vp hF (.int .u8 ((c.toNat : Int))) ?_; clear hF; intro a hF
   refine Vp hF (.bool (decide ((c.toNat : Int) ≤ 102))) ?_; clear hF; intro a hF
   refine Vp hF (.bool (decide ((c.toNat : Int) ≤ 102))) ?_; clear hF; intro a hF
   refine L_nil ?_
   refine hK19 _ _ ?_
   by_cases q10 : (c.toNat : Int) ≤ 102
   ·
    replace hF := hF.know (d := 17) (v' := .bool true) (by kernel_rfl) (congrArg Value.bool (decide_eq_true q10))
    refine cond_t hF (by kernel_rfl) (by kernel_rfl) ?_
    refine wp_seq_k fun K20 hK20 => ?_
    refine wp_region_lit ?_
    refine Vp hF (.int .u8 ((c.toNat : Int))) ?_; clear hF; intro a hF
    refine Vr hF (.int .i64 ((c.toNat : Int))) (x_int (x := IntKind.i64.wrap ((c.toNat : Int))) (i64In (by have := UInt8.toNat_lt c; omega) (by have := UInt8.toNat_lt c; omega)) (by kernel_rfl)) ?_; clear hF; intro a hF
    refine Vr hF (.int .i64 ((c.toNat : Int) - 97)) (x_int (x := IntKind.i64.wrap ((c.toNat : Int) - 97)) (i64In (by omega) (by omega)) (by kernel_rfl)) ?_; clear hF; intro a hF
    refine Vr hF (.int .i64 ((c.toNat : Int) - 97 + 10)) (x_int (x := IntKind.i64.wrap ((c.toNat : Int) - 97 + 10)) (i64In (by omega) (by omega)) (by kernel_rfl)) ?_; clear hF; intro a hF
    refine Vp hF (.int .i64 ((c.toNat : Int) - 97 + 10)) ?_; clear hF; intro a hF
    refine L_nil ?_
    refine hK20 _ _ ?_
    refine wp_ret ?_
    refine then_ret ?_
    refine ret1 hF (v := .int .i64 ((c.toNat : Int) - 97 + 10)) rfl (resT (by kernel_rfl)) (by refine ⟨?_, hO.nil⟩; unfold figN; first | rfl | (refine congrArg (Value.int _) ?_; (repeat' split) <;> omega)) .ret (.inl rfl)
   ·
    replace hF := hF.know (d := 17) (v' := .bool false) (by kernel_rfl) (congrArg Value.bool (decide_eq_false q10))
    refine cond_f hF (by kernel_rfl) (by kernel_rfl) ?_
    refine wp_skip ?_
    refine hK18 _ _ ?_
    refine wp_seq_k fun K21 hK21 => ?_
    refine wp_seq_k fun K22 hK22 => ?_
    refine wp_region_lit ?_
    refine Vp hF (.int .u8 ((c.toNat : Int))) ?_; clear hF; intro a hF
    refine Vp hF (.bool (decide ((c.toNat : Int) ≥ 65))) ?_; clear hF; intro a hF
    refine Vp hF (.bool (decide ((c.toNat : Int) ≥ 65))) ?_; clear hF; intro a hF
    by_cases q11 : (c.toNat : Int) ≥ 65
    ·
     replace hF := hF.know (d := 24) (v' := .bool true) (by kernel_rfl) (congrArg Value.bool (decide_eq_true q11))
     refine Vp hF (.int .u8 ((c.toNat : Int))) ?_; clear hF; intro a hF
     refine Vp hF (.bool (decide ((c.toNat : Int) ≤ 70))) ?_; clear hF; intro a hF
     refine Vp hF (.bool (decide ((c.toNat : Int) ≤ 70))) ?_; clear hF; intro a hF
     refine L_nil ?_
     refine hK22 _ _ ?_
     by_cases q12 : (c.toNat : Int) ≤ 70
     ·
      replace hF := hF.know (d := 27) (v' := .bool true) (by kernel_rfl) (congrArg Value.bool (decide_eq_true q12))
      refine cond_t hF (by kernel_rfl) (by kernel_rfl) ?_
      refine wp_seq_k fun K23 hK23 => ?_
      refine wp_region_lit ?_
      refine Vp hF (.int .u8 ((c.toNat : Int))) ?_; clear hF; intro a hF
      refine Vr hF (.int .i64 ((c.toNat : Int))) (x_int (x := IntKind.i64.wrap ((c.toNat : Int))) (i64In (by have := UInt8.toNat_lt c; omega) (by have := UInt8.toNat_lt c; omega)) (by kernel_rfl)) ?_; clear hF; intro a hF
      refine Vr hF (.int .i64 ((c.toNat : Int) - 65)) (x_int (x := IntKind.i64.wrap ((c.toNat : Int) - 65)) (i64In (by omega) (by omega)) (by kernel_rfl)) ?_; clear hF; intro a hF
      refine Vr hF (.int .i64 ((c.toNat : Int) - 65 + 10)) (x_int (x := IntKind.i64.wrap ((c.toNat : Int) - 65 + 10)) (i64In (by omega) (by omega)) (by kernel_rfl)) ?_; clear hF; intro a hF
      refine Vp hF (.int .i64 ((c.toNat : Int) - 65 + 10)) ?_; clear hF; intro a hF
      refine L_nil ?_
      refine hK23 _ _ ?_
      refine wp_ret ?_
      refine then_ret ?_
      refine ret1 hF (v := .int .i64 ((c.toNat : Int) - 65 + 10)) rfl (resT (by kernel_rfl)) (by refine ⟨?_, hO.nil⟩; unfold figN; first | rfl | (refine congrArg (Value.int _) ?_; (repeat' split) <;> omega)) .ret (.inl rfl)
     ·
      replace hF := hF.know (d := 27) (v' := .bool false) (by kernel_rfl) (congrArg Value.bool (decide_eq_false q12))
      refine cond_f hF (by kernel_rfl) (by kernel_rfl) ?_
      refine wp_skip ?_
      refine hK21 _ _ ?_
      refine wp_seq_k fun K24 hK24 => ?_
      refine wp_region_lit ?_
      refine Vp hF (.int .i64 (-1)) ?_; clear hF; intro a hF
      refine L_nil ?_
      refine hK24 _ _ ?_
      refine wp_ret ?_
      refine ret1 hF (v := .int .i64 (-1)) rfl (resT (by kernel_rfl)) (by refine ⟨?_, hO.nil⟩; unfold figN; first | rfl | (refine congrArg (Value.int _) ?_; (repeat' split) <;> omega)) .ret (.inl rfl)
    ·
     replace hF := hF.know (d := 24) (v' := .bool false) (by kernel_rfl) (congrArg Value.bool (decide_eq_false q11))
     refine Lo hF ?_; clear hF; intro a hF
     refine Lo hF ?_; clear hF; intro a hF
     refine Vp hF (.bool false) ?_; clear hF; intro a hF
     refine L_nil ?_
     refine hK22 _ _ ?_
     refine cond_f hF (by kernel_rfl) (by kernel_rfl) ?_
     refine wp_skip ?_
     refine hK21 _ _ ?_
     refine wp_seq_k fun K25 hK25 => ?_
     refine wp_region_lit ?_
     refine Vp hF (.int .i64 (-1)) ?_; clear hF; intro a hF
     refine L_nil ?_
     refine hK25 _ _ ?_
     refine wp_ret ?_
     refine ret1 hF (v := .int .i64 (-1)) rfl (resT (by kernel_rfl)) (by refine ⟨?_, hO.nil⟩; unfold figN; first | rfl | (refine congrArg (Value.int _) ?_; (repeat' split) <;> omega)) .ret (.inl rfl)
  ·
   replace hF := hF.know (d := 14) (v' := .bool false) (by kernel_rfl) (congrArg Value.bool (decide_eq_false q9))
   refine Lo hF ?_; clear hF; intro a hF
   refine Lo hF ?_; clear hF; intro a hF
   refine Vp hF (.bool false) ?_; clear hF; intro a hF
   refine L_nil ?_
   refine hK19 _ _ ?_
   refine cond_f hF (by kernel_rfl) (by kernel_rfl) ?_
   refine wp_skip ?_
   refine hK18 _ _ ?_
   refine wp_seq_k fun K26 hK26 => ?_
   refine wp_seq_k fun K27 hK27 => ?_
   refine wp_region_lit ?_
   refine Vp hF (.int .u8 ((c.toNat : Int))) ?_; clear hF; intro a hF
   refine Vp hF (.bool (decide ((c.toNat : Int) ≥ 65))) ?_; clear hF; intro a hF
   refine Vp hF (.bool (decide ((c.toNat : Int) ≥ 65))) ?_; clear hF; intro a hF
   by_cases q13 : (c.toNat : Int) ≥ 65
   ·
    replace hF := hF.know (d := 24) (v' := .bool true) (by kernel_rfl) (congrArg Value.bool (decide_eq_true q13))
    refine Vp hF (.int .u8 ((c.toNat : Int))) ?_; clear hF; intro a hF
    refine Vp hF (.bool (decide ((c.toNat : Int) ≤ 70))) ?_; clear hF; intro a hF
    refine Vp hF (.bool (decide ((c.toNat : Int) ≤ 70))) ?_; clear hF; intro a hF
    refine L_nil ?_
    refine hK27 _ _ ?_
    by_cases q14 : (c.toNat : Int) ≤ 70
    ·
     replace hF := hF.know (d := 27) (v' := .bool true) (by kernel_rfl) (congrArg Value.bool (decide_eq_true q14))
     refine cond_t hF (by kernel_rfl) (by kernel_rfl) ?_
     refine wp_seq_k fun K28 hK28 => ?_
     refine wp_region_lit ?_
     refine Vp hF (.int .u8 ((c.toNat : Int))) ?_; clear hF; intro a hF
     refine Vr hF (.int .i64 ((c.toNat : Int))) (x_int (x := IntKind.i64.wrap ((c.toNat : Int))) (i64In (by have := UInt8.toNat_lt c; omega) (by have := UInt8.toNat_lt c; omega)) (by kernel_rfl)) ?_; clear hF; intro a hF
     refine Vr hF (.int .i64 ((c.toNat : Int) - 65)) (x_int (x := IntKind.i64.wrap ((c.toNat : Int) - 65)) (i64In (by omega) (by omega)) (by kernel_rfl)) ?_; clear hF; intro a hF
     refine Vr hF (.int .i64 ((c.toNat : Int) - 65 + 10)) (x_int (x := IntKind.i64.wrap ((c.toNat : Int) - 65 + 10)) (i64In (by omega) (by omega)) (by kernel_rfl)) ?_; clear hF; intro a hF
     refine Vp hF (.int .i64 ((c.toNat : Int) - 65 + 10)) ?_; clear hF; intro a hF
     refine L_nil ?_
     refine hK28 _ _ ?_
     refine wp_ret ?_
     refine then_ret ?_
     refine ret1 hF (v := .int .i64 ((c.toNat : Int) - 65 + 10)) rfl (resT (by kernel_rfl)) (by refine ⟨?_, hO.nil⟩; unfold figN; first | rfl | (refine congrArg (Value.int _) ?_; (repeat' split) <;> omega)) .ret (.inl rfl)
    ·
     replace hF := hF.know (d := 27) (v' := .bool false) (by kernel_rfl) (congrArg Value.bool (decide_eq_false q14))
     refine cond_f hF (by kernel_rfl) (by kernel_rfl) ?_
     refine wp_skip ?_
     refine hK26 _ _ ?_
     refine wp_seq_k fun K29 hK29 => ?_
     refine wp_region_lit ?_
     refine Vp hF (.int .i64 (-1)) ?_; clear hF; intro a hF
     refine L_nil ?_
     refine hK29 _ _ ?_
     refine wp_ret ?_
     refine ret1 hF (v := .int .i64 (-1)) rfl (resT (by kernel_rfl)) (by refine ⟨?_, hO.nil⟩; unfold figN; first | rfl | (refine congrArg (Value.int _) ?_; (repeat' split) <;> omega)) .ret (.inl rfl)
   ·
    replace hF := hF.know (d := 24) (v' := .bool false) (by kernel_rfl) (congrArg Value.bool (decide_eq_false q13))
    refine Lo hF ?_; clear hF; intro a hF
    refine Lo hF ?_; clear hF; intro a hF
    refine Vp hF (.bool false) ?_; clear hF; intro a hF
    refine L_nil ?_
    refine hK27 _ _ ?_
    refine cond_f hF (by kernel_rfl) (by kernel_rfl) ?_
    refine wp_skip ?_
    refine hK26 _ _ ?_
    refine wp_seq_k fun K30 hK30 => ?_
    refine wp_region_lit ?_
    refine Vp hF (.int .i64 (-1)) ?_; clear hF; intro a hF
    refine L_nil ?_
    refine hK30 _ _ ?_
    refine wp_ret ?_
    refine ret1 hF (v := .int .i64 (-1)) rfl (resT (by kernel_rfl)) (by refine ⟨?_, hO.nil⟩; unfold figN; first | rfl | (refine congrArg (Value.int _) ?_; (repeat' split) <;> omega)) .ret (.inl rfl)

set_option maxRecDepth 20000 in
theorem ref02_number10 (s : ByteArray) (W : World) (hs : s.size ≤ 1000000) : Ret Tryz.prog 93 #[.string s, .int .i64 10, .int .i64 3] W fun v W' => v = .int .i64 (numN s 10 3) ∧ Own W noX [] W' := by
 have hll : s.data.toList.length = s.size := Array.length_toList
 refine enter Tryz.func93 rfl (n := 42) rfl (by kernel_rfl) (E0 := [(2, .int .i64 3), (1, .int .i64 10), (0, .string s)]) (by kernel_rfl) ?_
 intro a hF; have hO := Own.start W noX
 refine wp_seq_k fun K1 hK1 => ?_
 refine wp_region_lit ?_
 refine Vp hF (.int .i64 0) ?_; clear hF; intro a hF
 refine L_nil ?_
 refine hK1 _ _ ?_
 refine wp_seq_k fun K2 hK2 => ?_
 refine wp_seq_k fun K3 hK3 => ?_
 refine wp_region_lit ?_
 refine Vp hF (.string s) ?_; clear hF; intro a hF
 refine Vp hF (.int .i64 ((s.size : Int))) ?_; clear hF; intro a hF
 refine Vp hF (.bool (decide ((s.size : Int) < 1))) ?_; clear hF; intro a hF
 refine Vp hF (.bool (decide ((s.size : Int) < 1))) ?_; clear hF; intro a hF
 by_cases q1 : (s.size : Int) < 1
 ·
  replace hF := hF.know (d := 13) (v' := .bool true) (by kernel_rfl) (congrArg Value.bool (decide_eq_true q1))
  refine Lo hF ?_; clear hF; intro a hF
  refine Lo hF ?_; clear hF; intro a hF
  refine Lo hF ?_; clear hF; intro a hF
  refine Lo hF ?_; clear hF; intro a hF
  refine Vp hF (.bool true) ?_; clear hF; intro a hF
  refine L_nil ?_
  refine hK3 _ _ ?_
  refine cond_t hF (by kernel_rfl) (by kernel_rfl) ?_
  refine wp_seq_k fun K4 hK4 => ?_
  refine wp_region_lit ?_
  refine Vp hF (.int .i64 (-1)) ?_; clear hF; intro a hF
  refine L_nil ?_
  refine hK4 _ _ ?_
  refine wp_ret ?_
  refine then_ret ?_
  refine ret1 hF (v := .int .i64 (-1)) rfl (resT (by kernel_rfl)) (by refine ⟨?_, hO.nil⟩; first | exact congrArg (Value.int _) (num_no (by omega)).symm | (rw [num_yes (by omega) (by omega)]; first | exact congrArg (Value.int _) (num_bad hI.2.2.2 (by omega) (by omega)).symm | exact congrArg (Value.int _) (num_end hI.2.2.2 (by omega)).symm)) .ret (.inl rfl)
 ·
  replace hF := hF.know (d := 13) (v' := .bool false) (by kernel_rfl) (congrArg Value.bool (decide_eq_false q1))
  refine Vp hF (.string s) ?_; clear hF; intro a hF
  refine Vp hF (.int .i64 ((s.size : Int))) ?_; clear hF; intro a hF
  refine Vp hF (.int .i64 3) ?_; clear hF; intro a hF
  refine Vp hF (.bool (decide ((s.size : Int) > 3))) ?_; clear hF; intro a hF
  refine Vp hF (.bool (decide ((s.size : Int) > 3))) ?_; clear hF; intro a hF
  refine L_nil ?_
  refine hK3 _ _ ?_
  by_cases q2 : (s.size : Int) > 3
  ·
   replace hF := hF.know (d := 18) (v' := .bool true) (by kernel_rfl) (congrArg Value.bool (decide_eq_true q2))
   refine cond_t hF (by kernel_rfl) (by kernel_rfl) ?_
   refine wp_seq_k fun K5 hK5 => ?_
   refine wp_region_lit ?_
   refine Vp hF (.int .i64 (-1)) ?_; clear hF; intro a hF
   refine L_nil ?_
   refine hK5 _ _ ?_
   refine wp_ret ?_
   refine then_ret ?_
   refine ret1 hF (v := .int .i64 (-1)) rfl (resT (by kernel_rfl)) (by refine ⟨?_, hO.nil⟩; first | exact congrArg (Value.int _) (num_no (by omega)).symm | (rw [num_yes (by omega) (by omega)]; first | exact congrArg (Value.int _) (num_bad hI.2.2.2 (by omega) (by omega)).symm | exact congrArg (Value.int _) (num_end hI.2.2.2 (by omega)).symm)) .ret (.inl rfl)
  ·
   replace hF := hF.know (d := 18) (v' := .bool false) (by kernel_rfl) (congrArg Value.bool (decide_eq_false q2))
   refine cond_f hF (by kernel_rfl) (by kernel_rfl) ?_
   refine wp_skip ?_
   refine hK2 _ _ ?_
   refine wp_seq_k fun K6 hK6 => ?_
   refine wp_region_lit ?_
   refine Vp hF (.int .i64 0) ?_; clear hF; intro a hF
   refine L_nil ?_
   refine hK6 _ _ ?_
   refine wp_seq_k fun K7 hK7 => ?_
   refine wp_seq_k fun K8 hK8 => ?_
   refine wp_region_lit ?_
   refine Vp hF (.int .i64 0) ?_; clear hF; intro a hF
   refine L_nil ?_
   refine hK8 _ _ ?_
   refine wp_block ?_
   refine loopX (τ := Nat × Int) (fun (xτ : Nat × Int) a Wx => (fun (i : Nat) (n : Int) => (i ≤ s.size ∧ 0 ≤ n ∧ n < 16 ^ i ∧ numGo 10 s.data.toList 0 = numGo 10 (s.data.toList.drop i) n) ∧ Fr 42 a [(0, .string s), (1, .int .i64 10), (7, .int .i64 (n)), (8, .int .i64 ((i : Int)))] ∧ Own W noX [] Wx) (xτ.1) (xτ.2)) (fun (xτ : Nat × Int) => (fun (i : Nat) (n : Int) => s.size - i) (xτ.1) (xτ.2)) ((0, 0)) ⟨⟨Nat.zero_le _, Int.le_refl _, by decide, rfl⟩, ?_, ?_⟩ ?_
   · exact hF.restrict ⟨(by kernel_rfl), (by kernel_rfl), (congrArg some (by first | rfl | exact congrArg (Value.int _) (by omega) | simp)), (congrArg some (by first | rfl | exact congrArg (Value.int _) (by omega) | simp)), trivial⟩
   · exact hO.sub (List.nil_sublist _)
   clear hF hO; rintro ⟨i, n⟩ a Wl1 ⟨hI, hF, hO⟩ KhK_1 hK_1
   try dsimp only at hI
   refine wp_seq_k fun K9 hK9 => ?_
   refine wp_seq_k fun K10 hK10 => ?_
   refine wp_region_lit ?_
   refine Vp hF (.int .i64 ((i : Int))) ?_; clear hF; intro a hF
   refine Vp hF (.string s) ?_; clear hF; intro a hF
   refine Vp hF (.int .i64 ((s.size : Int))) ?_; clear hF; intro a hF
   refine Vp hF (.bool (decide ((i : Int) < (s.size : Int)))) ?_; clear hF; intro a hF
   refine L_nil ?_
   refine hK10 _ _ ?_
   by_cases q3 : (i : Int) < (s.size : Int)
   ·
    replace hF := hF.know (d := 22) (v' := .bool true) (by kernel_rfl) (congrArg Value.bool (decide_eq_true q3))
    refine cond_t hF (by kernel_rfl) (by kernel_rfl) ?_
    refine wp_skip ?_
    refine hK9 _ _ ?_
    refine wp_seq_k fun K11 hK11 => ?_
    refine wp_block ?_
    refine wp_seq_k fun K12 hK12 => ?_
    refine wp_region_lit ?_
    refine Vp hF (.string s) ?_; clear hF; intro a hF
    refine Vp hF (.int .i64 ((i : Int))) ?_; clear hF; intro a hF
    refine Vr hF (.int .u8 (bt s (i : Int))) (x_idxStr (s := s) (k := .i64) (i := (i : Int)) rfl (by kernel_rfl) (by kernel_rfl) (by kernel_rfl) (by omega) (by omega)) ?_; clear hF; intro a hF
    refine Lc hF (ref02_figure (btB s (i : Int)) Wl1) ?_
    clear hF; rintro _ W1 a ⟨rfl, hk⟩ hF
    replace hO := hO.call0 hk; clear hk
    refine Vp hF (.int .i64 ((figN (btB s (i : Int))))) ?_; clear hF; intro a hF
    refine L_nil ?_
    refine hK12 _ _ ?_
    refine wp_seq_k fun K13 hK13 => ?_
    refine wp_seq_k fun K14 hK14 => ?_
    refine wp_region_lit ?_
    refine Vp hF (.int .i64 ((figN (btB s (i : Int))))) ?_; clear hF; intro a hF
    refine Vp hF (.bool (decide ((figN (btB s (i : Int))) < 0))) ?_; clear hF; intro a hF
    refine Vp hF (.bool (decide ((figN (btB s (i : Int))) < 0))) ?_; clear hF; intro a hF
    by_cases q4 : (figN (btB s (i : Int))) < 0
    ·
     replace hF := hF.know (d := 31) (v' := .bool true) (by kernel_rfl) (congrArg Value.bool (decide_eq_true q4))
     refine Lo hF ?_; clear hF; intro a hF
     refine Lo hF ?_; clear hF; intro a hF
     refine Lo hF ?_; clear hF; intro a hF
     refine Vp hF (.bool true) ?_; clear hF; intro a hF
     refine L_nil ?_
     refine hK14 _ _ ?_
     refine cond_t hF (by kernel_rfl) (by kernel_rfl) ?_
     refine wp_seq_k fun K15 hK15 => ?_
     refine wp_region_lit ?_
     refine Vp hF (.int .i64 (-1)) ?_; clear hF; intro a hF
     refine L_nil ?_
     refine hK15 _ _ ?_
     refine wp_ret ?_
     refine then_ret ?_
     refine block_ret ?_
     refine then_ret ?_
     refine then_ret ?_
     refine block_ret ?_
     refine then_ret ?_
     refine ret1 hF (v := .int .i64 (-1)) rfl (resT (by kernel_rfl)) (by refine ⟨?_, hO.nil⟩; first | exact congrArg (Value.int _) (num_no (by omega)).symm | (rw [num_yes (by omega) (by omega)]; first | exact congrArg (Value.int _) (num_bad hI.2.2.2 (by omega) (by omega)).symm | exact congrArg (Value.int _) (num_end hI.2.2.2 (by omega)).symm)) .ret (.inl rfl)
    ·
     replace hF := hF.know (d := 31) (v' := .bool false) (by kernel_rfl) (congrArg Value.bool (decide_eq_false q4))
     refine Vp hF (.int .i64 ((figN (btB s (i : Int))))) ?_; clear hF; intro a hF
     refine Vp hF (.int .i64 10) ?_; clear hF; intro a hF
     refine Vp hF (.bool (decide ((figN (btB s (i : Int))) ≥ 10))) ?_; clear hF; intro a hF
     refine Vp hF (.bool (decide ((figN (btB s (i : Int))) ≥ 10))) ?_; clear hF; intro a hF
     refine L_nil ?_
     refine hK14 _ _ ?_
     by_cases q5 : (figN (btB s (i : Int))) ≥ 10
     ·
      replace hF := hF.know (d := 35) (v' := .bool true) (by kernel_rfl) (congrArg Value.bool (decide_eq_true q5))
      refine cond_t hF (by kernel_rfl) (by kernel_rfl) ?_
      refine wp_seq_k fun K16 hK16 => ?_
      refine wp_region_lit ?_
      refine Vp hF (.int .i64 (-1)) ?_; clear hF; intro a hF
      refine L_nil ?_
      refine hK16 _ _ ?_
      refine wp_ret ?_
      refine then_ret ?_
      refine block_ret ?_
      refine then_ret ?_
      refine then_ret ?_
      refine block_ret ?_
      refine then_ret ?_
      refine ret1 hF (v := .int .i64 (-1)) rfl (resT (by kernel_rfl)) (by refine ⟨?_, hO.nil⟩; first | exact congrArg (Value.int _) (num_no (by omega)).symm | (rw [num_yes (by omega) (by omega)]; first | exact congrArg (Value.int _) (num_bad hI.2.2.2 (by omega) (by omega)).symm | exact congrArg (Value.int _) (num_end hI.2.2.2 (by omega)).symm)) .ret (.inl rfl)
     ·
      replace hF := hF.know (d := 35) (v' := .bool false) (by kernel_rfl) (congrArg Value.bool (decide_eq_false q5))
      refine cond_f hF (by kernel_rfl) (by kernel_rfl) ?_
      refine wp_skip ?_
      refine hK13 _ _ ?_
      refine wp_region_lit ?_
      refine Vp hF (.int .i64 (n)) ?_; clear hF; intro a hF
      refine Vp hF (.int .i64 10) ?_; clear hF; intro a hF
      refine Vr hF (.int .i64 (n * 10)) (x_int (x := IntKind.i64.wrap (n * 10)) (i64In (by (first | omega | (have hix := figN_bd (btB s (i : Int)); have hp := q16 i (by omega); omega))) (by (first | omega | (have hix := figN_bd (btB s (i : Int)); have hp := q16 i (by omega); omega)))) (by kernel_rfl)) ?_; clear hF; intro a hF
      refine Vp hF (.int .i64 ((figN (btB s (i : Int))))) ?_; clear hF; intro a hF
      refine Vr hF (.int .i64 (n * 10 + (figN (btB s (i : Int))))) (x_int (x := IntKind.i64.wrap (n * 10 + (figN (btB s (i : Int))))) (i64In (by (first | omega | (have hix := figN_bd (btB s (i : Int)); have hp := q16 i (by omega); omega))) (by (first | omega | (have hix := figN_bd (btB s (i : Int)); have hp := q16 i (by omega); omega)))) (by kernel_rfl)) ?_; clear hF; intro a hF
      refine Vp hF (.int .i64 (n * 10 + (figN (btB s (i : Int))))) ?_; clear hF; intro a hF
      refine L_nil ?_
      refine block_normal ?_
      refine hK11 _ _ ?_
      refine wp_region_lit ?_
      refine Vp hF (.int .i64 ((i : Int))) ?_; clear hF; intro a hF
      refine Vr hF (.int .i64 ((i : Int) + 1)) (x_int (x := IntKind.i64.wrap ((i : Int) + 1)) (i64In (by omega) (by omega)) (by kernel_rfl)) ?_; clear hF; intro a hF
      refine Vp hF (.int .i64 ((i : Int) + 1)) ?_; clear hF; intro a hF
      refine L_nil ?_
      refine hK_1 ((i + 1, n * 10 + (figN (btB s (i : Int))))) _ _ (by first | omega | (dsimp only; omega)) ⟨⟨by dsimp only; omega, by dsimp only; omega, by have hp := q16 i (by omega); dsimp only; omega, num_round hI.2.2.2 (by omega) (by assumption) (by omega)⟩, ?_, ?_⟩
      · exact hF.restrict ⟨(by kernel_rfl), (by kernel_rfl), (congrArg some (by first | rfl | exact congrArg (Value.int _) (by omega) | simp)), (congrArg some (by first | rfl | exact congrArg (Value.int _) (by omega) | simp)), trivial⟩
      · exact hO.sub (List.nil_sublist _)
   ·
    replace hF := hF.know (d := 22) (v' := .bool false) (by kernel_rfl) (congrArg Value.bool (decide_eq_false q3))
    refine cond_f hF (by kernel_rfl) (by kernel_rfl) ?_
    refine wp_exit ?_
    refine then_exit ?_
    refine then_exit ?_
    refine inBlock_hit ?_
    refine hK7 _ _ ?_
    refine wp_seq_k fun K17 hK17 => ?_
    refine wp_region_lit ?_
    refine Vp hF (.int .i64 (n)) ?_; clear hF; intro a hF
    refine Vp hF (.int .i64 (n)) ?_; clear hF; intro a hF
    refine L_nil ?_
    refine hK17 _ _ ?_
    refine wp_ret ?_
    refine ret1 hF (v := .int .i64 (n)) rfl (resT (by kernel_rfl)) (by refine ⟨?_, hO.nil⟩; first | exact congrArg (Value.int _) (num_no (by omega)).symm | (rw [num_yes (by omega) (by omega)]; first | exact congrArg (Value.int _) (num_bad hI.2.2.2 (by omega) (by omega)).symm | exact congrArg (Value.int _) (num_end hI.2.2.2 (by omega)).symm)) .ret (.inl rfl)

set_option maxRecDepth 20000 in
theorem ref02_number16 (s : ByteArray) (W : World) (hs : s.size ≤ 1000000) : Ret Tryz.prog 93 #[.string s, .int .i64 16, .int .i64 4] W fun v W' => v = .int .i64 (numN s 16 4) ∧ Own W noX [] W' := by
 have hll : s.data.toList.length = s.size := Array.length_toList
 refine enter Tryz.func93 rfl (n := 42) rfl (by kernel_rfl) (E0 := [(2, .int .i64 4), (1, .int .i64 16), (0, .string s)]) (by kernel_rfl) ?_
 intro a hF; have hO := Own.start W noX
 refine wp_seq_k fun K1 hK1 => ?_
 refine wp_region_lit ?_
 refine Vp hF (.int .i64 0) ?_; clear hF; intro a hF
 refine L_nil ?_
 refine hK1 _ _ ?_
 refine wp_seq_k fun K2 hK2 => ?_
 refine wp_seq_k fun K3 hK3 => ?_
 refine wp_region_lit ?_
 refine Vp hF (.string s) ?_; clear hF; intro a hF
 refine Vp hF (.int .i64 ((s.size : Int))) ?_; clear hF; intro a hF
 refine Vp hF (.bool (decide ((s.size : Int) < 1))) ?_; clear hF; intro a hF
 refine Vp hF (.bool (decide ((s.size : Int) < 1))) ?_; clear hF; intro a hF
 by_cases q1 : (s.size : Int) < 1
 ·
  replace hF := hF.know (d := 13) (v' := .bool true) (by kernel_rfl) (congrArg Value.bool (decide_eq_true q1))
  refine Lo hF ?_; clear hF; intro a hF
  refine Lo hF ?_; clear hF; intro a hF
  refine Lo hF ?_; clear hF; intro a hF
  refine Lo hF ?_; clear hF; intro a hF
  refine Vp hF (.bool true) ?_; clear hF; intro a hF
  refine L_nil ?_
  refine hK3 _ _ ?_
  refine cond_t hF (by kernel_rfl) (by kernel_rfl) ?_
  refine wp_seq_k fun K4 hK4 => ?_
  refine wp_region_lit ?_
  refine Vp hF (.int .i64 (-1)) ?_; clear hF; intro a hF
  refine L_nil ?_
  refine hK4 _ _ ?_
  refine wp_ret ?_
  refine then_ret ?_
  refine ret1 hF (v := .int .i64 (-1)) rfl (resT (by kernel_rfl)) (by refine ⟨?_, hO.nil⟩; first | exact congrArg (Value.int _) (num_no (by omega)).symm | (rw [num_yes (by omega) (by omega)]; first | exact congrArg (Value.int _) (num_bad hI.2.2.2 (by omega) (by omega)).symm | exact congrArg (Value.int _) (num_end hI.2.2.2 (by omega)).symm)) .ret (.inl rfl)
 ·
  replace hF := hF.know (d := 13) (v' := .bool false) (by kernel_rfl) (congrArg Value.bool (decide_eq_false q1))
  refine Vp hF (.string s) ?_; clear hF; intro a hF
  refine Vp hF (.int .i64 ((s.size : Int))) ?_; clear hF; intro a hF
  refine Vp hF (.int .i64 4) ?_; clear hF; intro a hF
  refine Vp hF (.bool (decide ((s.size : Int) > 4))) ?_; clear hF; intro a hF
  refine Vp hF (.bool (decide ((s.size : Int) > 4))) ?_; clear hF; intro a hF
  refine L_nil ?_
  refine hK3 _ _ ?_
  by_cases q2 : (s.size : Int) > 4
  ·
   replace hF := hF.know (d := 18) (v' := .bool true) (by kernel_rfl) (congrArg Value.bool (decide_eq_true q2))
   refine cond_t hF (by kernel_rfl) (by kernel_rfl) ?_
   refine wp_seq_k fun K5 hK5 => ?_
   refine wp_region_lit ?_
   refine Vp hF (.int .i64 (-1)) ?_; clear hF; intro a hF
   refine L_nil ?_
   refine hK5 _ _ ?_
   refine wp_ret ?_
   refine then_ret ?_
   refine ret1 hF (v := .int .i64 (-1)) rfl (resT (by kernel_rfl)) (by refine ⟨?_, hO.nil⟩; first | exact congrArg (Value.int _) (num_no (by omega)).symm | (rw [num_yes (by omega) (by omega)]; first | exact congrArg (Value.int _) (num_bad hI.2.2.2 (by omega) (by omega)).symm | exact congrArg (Value.int _) (num_end hI.2.2.2 (by omega)).symm)) .ret (.inl rfl)
  ·
   replace hF := hF.know (d := 18) (v' := .bool false) (by kernel_rfl) (congrArg Value.bool (decide_eq_false q2))
   refine cond_f hF (by kernel_rfl) (by kernel_rfl) ?_
   refine wp_skip ?_
   refine hK2 _ _ ?_
   refine wp_seq_k fun K6 hK6 => ?_
   refine wp_region_lit ?_
   refine Vp hF (.int .i64 0) ?_; clear hF; intro a hF
   refine L_nil ?_
   refine hK6 _ _ ?_
   refine wp_seq_k fun K7 hK7 => ?_
   refine wp_seq_k fun K8 hK8 => ?_
   refine wp_region_lit ?_
   refine Vp hF (.int .i64 0) ?_; clear hF; intro a hF
   refine L_nil ?_
   refine hK8 _ _ ?_
   refine wp_block ?_
   refine loopX (τ := Nat × Int) (fun (xτ : Nat × Int) a Wx => (fun (i : Nat) (n : Int) => (i ≤ s.size ∧ 0 ≤ n ∧ n < 16 ^ i ∧ numGo 16 s.data.toList 0 = numGo 16 (s.data.toList.drop i) n) ∧ Fr 42 a [(0, .string s), (1, .int .i64 16), (7, .int .i64 (n)), (8, .int .i64 ((i : Int)))] ∧ Own W noX [] Wx) (xτ.1) (xτ.2)) (fun (xτ : Nat × Int) => (fun (i : Nat) (n : Int) => s.size - i) (xτ.1) (xτ.2)) ((0, 0)) ⟨⟨Nat.zero_le _, Int.le_refl _, by decide, rfl⟩, ?_, ?_⟩ ?_
   · exact hF.restrict ⟨(by kernel_rfl), (by kernel_rfl), (congrArg some (by first | rfl | exact congrArg (Value.int _) (by omega) | simp)), (congrArg some (by first | rfl | exact congrArg (Value.int _) (by omega) | simp)), trivial⟩
   · exact hO.sub (List.nil_sublist _)
   clear hF hO; rintro ⟨i, n⟩ a Wl1 ⟨hI, hF, hO⟩ KhK_1 hK_1
   try dsimp only at hI
   refine wp_seq_k fun K9 hK9 => ?_
   refine wp_seq_k fun K10 hK10 => ?_
   refine wp_region_lit ?_
   refine Vp hF (.int .i64 ((i : Int))) ?_; clear hF; intro a hF
   refine Vp hF (.string s) ?_; clear hF; intro a hF
   refine Vp hF (.int .i64 ((s.size : Int))) ?_; clear hF; intro a hF
   refine Vp hF (.bool (decide ((i : Int) < (s.size : Int)))) ?_; clear hF; intro a hF
   refine L_nil ?_
   refine hK10 _ _ ?_
   by_cases q3 : (i : Int) < (s.size : Int)
   ·
    replace hF := hF.know (d := 22) (v' := .bool true) (by kernel_rfl) (congrArg Value.bool (decide_eq_true q3))
    refine cond_t hF (by kernel_rfl) (by kernel_rfl) ?_
    refine wp_skip ?_
    refine hK9 _ _ ?_
    refine wp_seq_k fun K11 hK11 => ?_
    refine wp_block ?_
    refine wp_seq_k fun K12 hK12 => ?_
    refine wp_region_lit ?_
    refine Vp hF (.string s) ?_; clear hF; intro a hF
    refine Vp hF (.int .i64 ((i : Int))) ?_; clear hF; intro a hF
    refine Vr hF (.int .u8 (bt s (i : Int))) (x_idxStr (s := s) (k := .i64) (i := (i : Int)) rfl (by kernel_rfl) (by kernel_rfl) (by kernel_rfl) (by omega) (by omega)) ?_; clear hF; intro a hF
    refine Lc hF (ref02_figure (btB s (i : Int)) Wl1) ?_
    clear hF; rintro _ W1 a ⟨rfl, hk⟩ hF
    replace hO := hO.call0 hk; clear hk
    refine Vp hF (.int .i64 ((figN (btB s (i : Int))))) ?_; clear hF; intro a hF
    refine L_nil ?_
    refine hK12 _ _ ?_
    refine wp_seq_k fun K13 hK13 => ?_
    refine wp_seq_k fun K14 hK14 => ?_
    refine wp_region_lit ?_
    refine Vp hF (.int .i64 ((figN (btB s (i : Int))))) ?_; clear hF; intro a hF
    refine Vp hF (.bool (decide ((figN (btB s (i : Int))) < 0))) ?_; clear hF; intro a hF
    refine Vp hF (.bool (decide ((figN (btB s (i : Int))) < 0))) ?_; clear hF; intro a hF
    by_cases q4 : (figN (btB s (i : Int))) < 0
    ·
     replace hF := hF.know (d := 31) (v' := .bool true) (by kernel_rfl) (congrArg Value.bool (decide_eq_true q4))
     refine Lo hF ?_; clear hF; intro a hF
     refine Lo hF ?_; clear hF; intro a hF
     refine Lo hF ?_; clear hF; intro a hF
     refine Vp hF (.bool true) ?_; clear hF; intro a hF
     refine L_nil ?_
     refine hK14 _ _ ?_
     refine cond_t hF (by kernel_rfl) (by kernel_rfl) ?_
     refine wp_seq_k fun K15 hK15 => ?_
     refine wp_region_lit ?_
     refine Vp hF (.int .i64 (-1)) ?_; clear hF; intro a hF
     refine L_nil ?_
     refine hK15 _ _ ?_
     refine wp_ret ?_
     refine then_ret ?_
     refine block_ret ?_
     refine then_ret ?_
     refine then_ret ?_
     refine block_ret ?_
     refine then_ret ?_
     refine ret1 hF (v := .int .i64 (-1)) rfl (resT (by kernel_rfl)) (by refine ⟨?_, hO.nil⟩; first | exact congrArg (Value.int _) (num_no (by omega)).symm | (rw [num_yes (by omega) (by omega)]; first | exact congrArg (Value.int _) (num_bad hI.2.2.2 (by omega) (by omega)).symm | exact congrArg (Value.int _) (num_end hI.2.2.2 (by omega)).symm)) .ret (.inl rfl)
    ·
     replace hF := hF.know (d := 31) (v' := .bool false) (by kernel_rfl) (congrArg Value.bool (decide_eq_false q4))
     refine Vp hF (.int .i64 ((figN (btB s (i : Int))))) ?_; clear hF; intro a hF
     refine Vp hF (.int .i64 16) ?_; clear hF; intro a hF
     refine Vp hF (.bool (decide ((figN (btB s (i : Int))) ≥ 16))) ?_; clear hF; intro a hF
     refine Vp hF (.bool (decide ((figN (btB s (i : Int))) ≥ 16))) ?_; clear hF; intro a hF
     refine L_nil ?_
     refine hK14 _ _ ?_
     by_cases q5 : (figN (btB s (i : Int))) ≥ 16
     ·
      replace hF := hF.know (d := 35) (v' := .bool true) (by kernel_rfl) (congrArg Value.bool (decide_eq_true q5))
      refine cond_t hF (by kernel_rfl) (by kernel_rfl) ?_
      refine wp_seq_k fun K16 hK16 => ?_
      refine wp_region_lit ?_
      refine Vp hF (.int .i64 (-1)) ?_; clear hF; intro a hF
      refine L_nil ?_
      refine hK16 _ _ ?_
      refine wp_ret ?_
      refine then_ret ?_
      refine block_ret ?_
      refine then_ret ?_
      refine then_ret ?_
      refine block_ret ?_
      refine then_ret ?_
      refine ret1 hF (v := .int .i64 (-1)) rfl (resT (by kernel_rfl)) (by refine ⟨?_, hO.nil⟩; first | exact congrArg (Value.int _) (num_no (by omega)).symm | (rw [num_yes (by omega) (by omega)]; first | exact congrArg (Value.int _) (num_bad hI.2.2.2 (by omega) (by omega)).symm | exact congrArg (Value.int _) (num_end hI.2.2.2 (by omega)).symm)) .ret (.inl rfl)
     ·
      replace hF := hF.know (d := 35) (v' := .bool false) (by kernel_rfl) (congrArg Value.bool (decide_eq_false q5))
      refine cond_f hF (by kernel_rfl) (by kernel_rfl) ?_
      refine wp_skip ?_
      refine hK13 _ _ ?_
      refine wp_region_lit ?_
      refine Vp hF (.int .i64 (n)) ?_; clear hF; intro a hF
      refine Vp hF (.int .i64 16) ?_; clear hF; intro a hF
      refine Vr hF (.int .i64 (n * 16)) (x_int (x := IntKind.i64.wrap (n * 16)) (i64In (by (first | omega | (have hix := figN_bd (btB s (i : Int)); have hp := q16 i (by omega); omega))) (by (first | omega | (have hix := figN_bd (btB s (i : Int)); have hp := q16 i (by omega); omega)))) (by kernel_rfl)) ?_; clear hF; intro a hF
      refine Vp hF (.int .i64 ((figN (btB s (i : Int))))) ?_; clear hF; intro a hF
      refine Vr hF (.int .i64 (n * 16 + (figN (btB s (i : Int))))) (x_int (x := IntKind.i64.wrap (n * 16 + (figN (btB s (i : Int))))) (i64In (by (first | omega | (have hix := figN_bd (btB s (i : Int)); have hp := q16 i (by omega); omega))) (by (first | omega | (have hix := figN_bd (btB s (i : Int)); have hp := q16 i (by omega); omega)))) (by kernel_rfl)) ?_; clear hF; intro a hF
      refine Vp hF (.int .i64 (n * 16 + (figN (btB s (i : Int))))) ?_; clear hF; intro a hF
      refine L_nil ?_
      refine block_normal ?_
      refine hK11 _ _ ?_
      refine wp_region_lit ?_
      refine Vp hF (.int .i64 ((i : Int))) ?_; clear hF; intro a hF
      refine Vr hF (.int .i64 ((i : Int) + 1)) (x_int (x := IntKind.i64.wrap ((i : Int) + 1)) (i64In (by omega) (by omega)) (by kernel_rfl)) ?_; clear hF; intro a hF
      refine Vp hF (.int .i64 ((i : Int) + 1)) ?_; clear hF; intro a hF
      refine L_nil ?_
      refine hK_1 ((i + 1, n * 16 + (figN (btB s (i : Int))))) _ _ (by first | omega | (dsimp only; omega)) ⟨⟨by dsimp only; omega, by dsimp only; omega, by have hp := q16 i (by omega); dsimp only; omega, num_round hI.2.2.2 (by omega) (by assumption) (by omega)⟩, ?_, ?_⟩
      · exact hF.restrict ⟨(by kernel_rfl), (by kernel_rfl), (congrArg some (by first | rfl | exact congrArg (Value.int _) (by omega) | simp)), (congrArg some (by first | rfl | exact congrArg (Value.int _) (by omega) | simp)), trivial⟩
      · exact hO.sub (List.nil_sublist _)
   ·
    replace hF := hF.know (d := 22) (v' := .bool false) (by kernel_rfl) (congrArg Value.bool (decide_eq_false q3))
    refine cond_f hF (by kernel_rfl) (by kernel_rfl) ?_
    refine wp_exit ?_
    refine then_exit ?_
    refine then_exit ?_
    refine inBlock_hit ?_
    refine hK7 _ _ ?_
    refine wp_seq_k fun K17 hK17 => ?_
    refine wp_region_lit ?_
    refine Vp hF (.int .i64 (n)) ?_; clear hF; intro a hF
    refine Vp hF (.int .i64 (n)) ?_; clear hF; intro a hF
    refine L_nil ?_
    refine hK17 _ _ ?_
    refine wp_ret ?_
    refine ret1 hF (v := .int .i64 (n)) rfl (resT (by kernel_rfl)) (by refine ⟨?_, hO.nil⟩; first | exact congrArg (Value.int _) (num_no (by omega)).symm | (rw [num_yes (by omega) (by omega)]; first | exact congrArg (Value.int _) (num_bad hI.2.2.2 (by omega) (by omega)).symm | exact congrArg (Value.int _) (num_end hI.2.2.2 (by omega)).symm)) .ret (.inl rfl)

set_option maxRecDepth 20000 in
theorem ref02_split (s : ByteArray) (c : UInt8) (W : World) (hs : s.size ≤ 1000000) : Ret Tryz.prog 92 #[.string s, .int .u8 ((c.toNat : Int))] W fun v W' => ∃ q qc, v = .slice q (splitOn s c).length qc ∧ Own W noX [rowL strL 1 9 q qc (splitOn s c)] W' := by
 have hll : s.data.toList.length = s.size := Array.length_toList
 refine enter Tryz.func92 rfl (n := 36) rfl (by kernel_rfl) (E0 := [(1, .int .u8 ((c.toNat : Int))), (0, .string s)]) (by kernel_rfl) ?_
 intro a hF; have hO := Own.start W noX
 refine wp_seq_k fun K1 hK1 => ?_
 refine wp_region_lit ?_
 refine Vp hF (.slice none 0 0) ?_; clear hF; intro a hF
 refine L_nil ?_
 refine hK1 _ _ ?_
 refine wp_seq_k fun K2 hK2 => ?_
 refine wp_region_lit ?_
 refine L_new hF hO (by kernel_rfl) (by kernel_rfl) (vf := fun b => .slice (some ⟨b, 0, none⟩) 1 1) (ob := .cells #[.string (⟨#[]⟩ : ByteArray)] 9) (by kernel_rfl) (by kernel_rfl) ?_
 clear hF hO; intro b1 W1 a hO hF
 refine Vp hF (.slice (some ⟨b1, 0, none⟩) 1 1) ?_; clear hF; intro a hF
 refine L_nil ?_
 refine hK2 _ _ ?_
 refine wp_seq_k fun K3 hK3 => ?_
 refine wp_seq_k fun K4 hK4 => ?_
 refine wp_region_lit ?_
 refine Vp hF (.int .i64 0) ?_; clear hF; intro a hF
 refine L_nil ?_
 refine hK4 _ _ ?_
 refine wp_block ?_
 replace hO := hO.asRow (k := 1) (cap := 1) strL ([(⟨#[]⟩ : ByteArray)] : List ByteArray) (.head _) (by decide) (by kernel_rfl) (by decide) (by kernel_rfl)
 refine loopX (τ := Nat × Option Addr × Nat × List ByteArray) (fun (xτ : Nat × Option Addr × Nat × List ByteArray) a Wx => (fun (i : Nat) (q : Option Addr) (qc : Nat) (l : List ByteArray) => (i ≤ s.size ∧ l = spGo c (s.data.toList.take i) ∧ 1 ≤ l.length ∧ l.length ≤ i + 1) ∧ Fr 36 a [(0, .string s), (1, .int .u8 ((c.toNat : Int))), (4, .slice none 0 0), (5, .slice q l.length qc), (6, .int .i64 ((i : Int)))] ∧ Own W noX [rowL strL 1 9 q qc l] Wx) (xτ.1) (xτ.2.1) (xτ.2.2.1) (xτ.2.2.2)) (fun (xτ : Nat × Option Addr × Nat × List ByteArray) => (fun (i : Nat) (q : Option Addr) (qc : Nat) (l : List ByteArray) => s.size - i) (xτ.1) (xτ.2.1) (xτ.2.2.1) (xτ.2.2.2)) ((0, some ⟨b1, 0, none⟩, 1, ([(⟨#[]⟩ : ByteArray)] : List ByteArray))) ⟨⟨Nat.zero_le _, sp_both rfl⟩, ?_, ?_⟩ ?_
 · exact hF.restrict ⟨(by kernel_rfl), (by kernel_rfl), (by kernel_rfl), (congrArg some (by first | rfl | exact congrArg (Value.int _) (by omega) | simp)), (congrArg some (by first | rfl | exact congrArg (Value.int _) (by omega) | simp)), trivial⟩
 · exact hO.sub (.cons_cons _ (List.nil_sublist _))
 clear hF hO; rintro ⟨i, q, qc, l⟩ a Wl1 ⟨hI, hF, hO⟩ KhK_1 hK_1
 try dsimp only at hI
 refine wp_seq_k fun K5 hK5 => ?_
 refine wp_seq_k fun K6 hK6 => ?_
 refine wp_region_lit ?_
 refine Vp hF (.int .i64 ((i : Int))) ?_; clear hF; intro a hF
 refine Vp hF (.string s) ?_; clear hF; intro a hF
 refine Vp hF (.int .i64 ((s.size : Int))) ?_; clear hF; intro a hF
 refine Vp hF (.bool (decide ((i : Int) < (s.size : Int)))) ?_; clear hF; intro a hF
 refine L_nil ?_
 refine hK6 _ _ ?_
 by_cases q1 : (i : Int) < (s.size : Int)
 ·
  replace hF := hF.know (d := 11) (v' := .bool true) (by kernel_rfl) (congrArg Value.bool (decide_eq_true q1))
  refine cond_t hF (by kernel_rfl) (by kernel_rfl) ?_
  refine wp_skip ?_
  refine hK5 _ _ ?_
  refine wp_seq_k fun K7 hK7 => ?_
  refine wp_block ?_
  refine wp_seq_k fun K8 hK8 => ?_
  refine wp_region_lit ?_
  refine Vp hF (.string s) ?_; clear hF; intro a hF
  refine Vp hF (.int .i64 ((i : Int))) ?_; clear hF; intro a hF
  refine Vr hF (.int .u8 (bt s (i : Int))) (x_idxStr (s := s) (k := .i64) (i := (i : Int)) rfl (by kernel_rfl) (by kernel_rfl) (by kernel_rfl) (by omega) (by omega)) ?_; clear hF; intro a hF
  refine Vp hF (.int .u8 ((c.toNat : Int))) ?_; clear hF; intro a hF
  refine Vp hF (.bool ((bt s (i : Int)) == (c.toNat : Int))) ?_; clear hF; intro a hF
  refine L_nil ?_
  refine hK8 _ _ ?_
  by_cases q2 : bt s (i : Int) = (c.toNat : Int)
  ·
   replace hF := hF.know (d := 18) (v' := .bool true) (by kernel_rfl) (congrArg Value.bool (eqT q2))
   refine cond_t hF (by kernel_rfl) (by kernel_rfl) ?_
   refine wp_region_lit ?_
   refine Vp hF (.slice q l.length qc) ?_; clear hF; intro a hF
   refine L_new hF hO (by kernel_rfl) (by kernel_rfl) (vf := fun b => .slice (some ⟨b, 0, none⟩) 1 1) (ob := .cells #[.string (⟨#[]⟩ : ByteArray)] 9) (by kernel_rfl) (by kernel_rfl) ?_
   clear hF hO; intro b2 W2 a hO hF
   obtain ⟨p1, cap1, W3, hap, hO1, -⟩ := run_append_row (P := Tryz.prog) (ty := 98) (t := 98) (z := .string (⟨#[]⟩ : ByteArray)) (k := 1) (bytes := 16) (q := some ⟨b2, 0, none⟩) (ys := ([(⟨#[]⟩ : ByteArray)] : List ByteArray)) (cq := 1) hO (.tail (.head _)) (by kernel_rfl) (by kernel_rfl) (by kernel_rfl) (by decide) (fun _ => rfl) (fun _ => rfl) (SlAt.blk hO List.mem_cons_self (by kernel_rfl)) (by (try simp only [List.length_append, List.length_take, List.length_drop, List.length_cons, List.length_nil, maxLen]); omega) (by (try simp only [List.length_append, List.length_take, List.length_drop, List.length_cons, List.length_nil, maxLen]); omega)
   refine L_valW hF (by kernel_rfl) (by kernel_rfl) (x_app hap rfl (by kernel_rfl) (by kernel_rfl) rfl) (by kernel_rfl) ?_
   clear hap hF; intro a hF; replace hO := hO1; clear hO1
   refine Vp hF (.slice p1 ((l ++ ([(⟨#[]⟩ : ByteArray)] : List ByteArray)).length) cap1) ?_; clear hF; intro a hF
   refine L_nil ?_
   refine block_normal ?_
   refine hK7 _ _ ?_
   refine wp_region_lit ?_
   refine Vp hF (.int .i64 ((i : Int))) ?_; clear hF; intro a hF
   refine Vr hF (.int .i64 ((i : Int) + 1)) (x_int (x := IntKind.i64.wrap ((i : Int) + 1)) (i64In (by omega) (by omega)) (by kernel_rfl)) ?_; clear hF; intro a hF
   refine Vp hF (.int .i64 ((i : Int) + 1)) ?_; clear hF; intro a hF
   refine L_nil ?_
   refine hK_1 ((i + 1, p1, cap1, l ++ ([(⟨#[]⟩ : ByteArray)] : List ByteArray))) _ _ (by first | omega | (dsimp only; omega)) ⟨⟨by dsimp only; omega, sp_both (by first | exact sp_hit (by omega) hI.2.1 (u8_eq (by assumption)) | exact sp_miss (by omega) hI.2.1 (u8_ne (by assumption)))⟩, ?_, ?_⟩
   · exact hF.restrict ⟨(by kernel_rfl), (by kernel_rfl), (by kernel_rfl), (congrArg some (by first | rfl | exact congrArg (Value.int _) (by omega) | simp)), (congrArg some (by first | rfl | exact congrArg (Value.int _) (by omega) | simp)), trivial⟩
   · exact hO.sub (.cons_cons _ (List.nil_sublist _))
  ·
   replace hF := hF.know (d := 18) (v' := .bool false) (by kernel_rfl) (congrArg Value.bool (eqF q2))
   refine cond_f hF (by kernel_rfl) (by kernel_rfl) ?_
   refine A_start (fun Wx => Own W noX [] Wx) (by kernel_rfl) ?_
   replace hO := hO.drewN 1
   generalize hWd : ({ Wl1 with drawn := Wl1.drawn + 1 } : World) = Wl1_d at hO ⊢; clear hWd
   have hS := hO.sub (List.nil_sublist _)
   refine Tk 0 rfl hF (.slice q l.length qc) (fun Wx _ => by kernel_rfl) hS ?_; clear hF; intro a hF
   refine Tk 1 rfl hF (.slice q l.length qc) (fun Wx _ => by kernel_rfl) hS ?_; clear hF; intro a hF
   refine Tk 2 rfl hF (.int .i64 ((l.length : Int))) (fun Wx _ => by kernel_rfl) hS ?_; clear hF; intro a hF
   refine Tk 3 rfl hF (.int .i64 ((l.length : Int) - 1)) (fun Wx _ => (x_int (x := IntKind.i64.wrap ((l.length : Int) - 1)) (i64In (by omega) (by omega)) (by kernel_rfl))) hS ?_; clear hF; intro a hF
   refine Tk 4 rfl hF (.pointer (some ⟨(ab q), ao q + (((l.length : Int) - 1).toNat) * 1, none⟩)) (fun Wx _ => (x_idxAddrS (p := q) (len := l.length) (cap := qc) (elem := 9) (kd := .i64) (k := 1) (i := (l.length : Int) - 1) rfl (by kernel_rfl) (by kernel_rfl) (by kernel_rfl) (by kernel_rfl) (by omega) (by omega) (SlAt.ne (k := 1) (hO.row List.mem_cons_self) (fun _ => rfl) (by decide) (by (first | omega | (simp only [List.length_set, List.length_take, List.length_drop, List.length_append, List.length_cons, List.length_nil]; done) | (simp only [List.length_set, List.length_take, List.length_drop, List.length_append, List.length_cons, List.length_nil]; omega) | (simp only [List.length_set, List.length_take, List.length_drop, List.length_append, List.length_cons, List.length_nil] at *; omega)) : ((l.length : Int) - 1).toNat < l.length)))) hS ?_; clear hF; intro a hF
   refine Tk 6 rfl hF (.string s) (fun Wx _ => by kernel_rfl) hS ?_; clear hF; intro a hF
   refine Tk 7 rfl hF (.int .i64 ((i : Int))) (fun Wx _ => by kernel_rfl) hS ?_; clear hF; intro a hF
   refine Tk 8 rfl hF (.int .i64 ((i : Int))) (fun Wx _ => by kernel_rfl) hS ?_; clear hF; intro a hF
   refine Tk 9 rfl hF (.int .i64 ((i : Int) + 1)) (fun Wx _ => (x_int (x := IntKind.i64.wrap ((i : Int) + 1)) (i64In (by omega) (by omega)) (by kernel_rfl))) hS ?_; clear hF; intro a hF
   refine Tk 10 rfl hF (.string (s.extract ((i : Int).toNat) (((i : Int) + 1).toNat))) (fun Wx _ => (x_slStrLH (s := s) (k := .i64) (i := (i : Int)) (k' := .i64) (j := (i : Int) + 1) rfl (by kernel_rfl) (by kernel_rfl) (by kernel_rfl) (by kernel_rfl) (by omega) (by omega) (by omega))) hS ?_; clear hF; intro a hF
   refine A_one (i := 5) (listed' := #[true, true, true, true, true, true, true, true, true, true, true, false, false, false]) (by kernel_rfl) rfl (by kernel_rfl) ?_
   refine OpK.vr hF (.string (nth l (((l.length : Int) - 1).toNat))) (x_load (p := .pointer (some ⟨(ab q), ao q + (((l.length : Int) - 1).toNat) * 1, none⟩)) rfl (by kernel_rfl) (run_loadEl1 (by kernel_rfl) (hO.row List.mem_cons_self) (fun _ => rfl) (by (first | omega | (simp only [List.length_set, List.length_take, List.length_drop, List.length_append, List.length_cons, List.length_nil]; done) | (simp only [List.length_set, List.length_take, List.length_drop, List.length_append, List.length_cons, List.length_nil]; omega) | (simp only [List.length_set, List.length_take, List.length_drop, List.length_append, List.length_cons, List.length_nil] at *; omega))) rfl)) ?_; clear hF; intro a hF
   refine ⟨hO.sub (List.nil_sublist _), ?_⟩
   refine Tk 11 rfl hF (.string ((nth l (((l.length : Int) - 1).toNat)) ++ (s.extract ((i : Int).toNat) (((i : Int) + 1).toNat)))) (fun Wx _ => (x_cat (s := nth l (((l.length : Int) - 1).toNat)) (t := s.extract ((i : Int).toNat) (((i : Int) + 1).toNat)) rfl (by kernel_rfl) (by kernel_rfl) (by (first | omega | (have hz := sp_elsize hI.2.1 _ (nth_mem (i := ((l.length : Int) - 1).toNat) (by omega)); rw [ext_one (by omega)]; have h1 : (⟨#[btB s (i : Int)]⟩ : ByteArray).size = 1 := rfl; omega) | ((try simp only [maxLen] at *); omega))))) hS ?_; clear hF; intro a hF
   refine Tk 12 rfl hF (.pointer (some ⟨(ab q), ao q + (((l.length : Int) - 1).toNat) * 1, none⟩)) (fun Wx _ => (x_idxAddrS (p := q) (len := l.length) (cap := qc) (elem := 9) (kd := .i64) (k := 1) (i := (l.length : Int) - 1) rfl (by kernel_rfl) (by kernel_rfl) (by kernel_rfl) (by kernel_rfl) (by omega) (by omega) (SlAt.ne (k := 1) (hO.row List.mem_cons_self) (fun _ => rfl) (by decide) (by (first | omega | (simp only [List.length_set, List.length_take, List.length_drop, List.length_append, List.length_cons, List.length_nil]; done) | (simp only [List.length_set, List.length_take, List.length_drop, List.length_append, List.length_cons, List.length_nil]; omega) | (simp only [List.length_set, List.length_take, List.length_drop, List.length_append, List.length_cons, List.length_nil] at *; omega)) : ((l.length : Int) - 1).toNat < l.length)))) hS ?_; clear hF; intro a hF
   refine A_one (i := 13) (listed' := #[true, true, true, true, true, true, true, true, true, true, true, true, true, true]) (by kernel_rfl) rfl (by kernel_rfl) ?_
   obtain ⟨W4, hst, hO1⟩ := run_store_el (P := Tryz.prog) (T := 9) (k := 1) (i := ((l.length : Int) - 1).toNat) (v := .string ((nth l (((l.length : Int) - 1).toNat)) ++ (s.extract ((i : Int).toNat) (((i : Int) + 1).toNat)))) (x' := (nth l (((l.length : Int) - 1).toNat)) ++ (s.extract ((i : Int).toNat) (((i : Int) + 1).toNat))) hO (.head _) (fun _ => rfl) (by kernel_rfl) (by kernel_rfl) (by (first | omega | (simp only [List.length_set, List.length_take, List.length_drop, List.length_append, List.length_cons, List.length_nil]; done) | (simp only [List.length_set, List.length_take, List.length_drop, List.length_append, List.length_cons, List.length_nil]; omega) | (simp only [List.length_set, List.length_take, List.length_drop, List.length_append, List.length_cons, List.length_nil] at *; omega))) (by kernel_rfl)
   refine OpK.skip hF (by kernel_rfl) (by kernel_rfl) (x_store (p := .pointer (some ⟨(ab q), ao q + (((l.length : Int) - 1).toNat) * 1, none⟩)) (v := .string ((nth l (((l.length : Int) - 1).toNat)) ++ (s.extract ((i : Int).toNat) (((i : Int) + 1).toNat)))) rfl (by kernel_rfl) (by kernel_rfl) hst) (by kernel_rfl) ?_
   clear hst hF; intro a hF; replace hO := hO1; clear hO1
   refine ⟨hO.sub (List.nil_sublist _), ?_⟩
   refine A_done (by kernel_rfl) ?_
   refine block_normal ?_
   refine hK7 _ _ ?_
   refine wp_region_lit ?_
   refine Vp hF (.int .i64 ((i : Int))) ?_; clear hF; intro a hF
   refine Vr hF (.int .i64 ((i : Int) + 1)) (x_int (x := IntKind.i64.wrap ((i : Int) + 1)) (i64In (by omega) (by omega)) (by kernel_rfl)) ?_; clear hF; intro a hF
   refine Vp hF (.int .i64 ((i : Int) + 1)) ?_; clear hF; intro a hF
   refine L_nil ?_
   refine hK_1 ((i + 1, q, qc, l.set (((l.length : Int) - 1).toNat) ((nth l (((l.length : Int) - 1).toNat)) ++ (s.extract ((i : Int).toNat) (((i : Int) + 1).toNat))))) _ _ (by first | omega | (dsimp only; omega)) ⟨⟨by dsimp only; omega, sp_both (by first | exact sp_hit (by omega) hI.2.1 (u8_eq (by assumption)) | exact sp_miss (by omega) hI.2.1 (u8_ne (by assumption)))⟩, ?_, ?_⟩
   · exact hF.restrict ⟨(by kernel_rfl), (by kernel_rfl), (by kernel_rfl), (congrArg some (by first | rfl | exact congrArg (Value.int _) (by omega) | simp)), (congrArg some (by first | rfl | exact congrArg (Value.int _) (by omega) | simp)), trivial⟩
   · exact hO.sub (.cons_cons _ (List.nil_sublist _))
 ·
  replace hF := hF.know (d := 11) (v' := .bool false) (by kernel_rfl) (congrArg Value.bool (decide_eq_false q1))
  refine cond_f hF (by kernel_rfl) (by kernel_rfl) ?_
  refine wp_exit ?_
  refine then_exit ?_
  refine then_exit ?_
  refine inBlock_hit ?_
  refine hK3 _ _ ?_
  refine wp_seq_k fun K9 hK9 => ?_
  refine wp_region_lit ?_
  refine Vp hF (.slice q l.length qc) ?_; clear hF; intro a hF
  refine Vp hF (.slice q l.length qc) ?_; clear hF; intro a hF
  refine L_nil ?_
  refine hK9 _ _ ?_
  refine wp_ret ?_
  refine ret1 hF (v := .slice q l.length qc) rfl (resT (by kernel_rfl)) (by (have hl := (sp_end hI.2.1 (by omega)).trans (spR_eq s c); exact ⟨_, _, by rw [← hl], by rw [← hl]; exact hO⟩)) .ret (.inl rfl)

set_option maxRecDepth 20000 in
theorem ref02_four (s : ByteArray) (W : World) (hs : s.size ≤ 1000000) : Ret Tryz.prog 91 #[.string s] W fun v W' => v = retOk (dotP s) ∧ Own W noX [] W' := by
 refine enter Tryz.func91 rfl (n := 49) rfl (by kernel_rfl) (E0 := [(0, .string s)]) (by kernel_rfl) ?_
 intro a hF; have hO := Own.start W noX
 refine wp_seq_k fun K1 hK1 => ?_
 refine wp_region_lit ?_
 refine L_new hF hO (by kernel_rfl) (by kernel_rfl) (vf := fun b => .pointer (some ⟨b, 0, none⟩)) (ob := .cells zFParseR 33) (by kernel_rfl) (by kernel_rfl) ?_
 clear hF hO; intro b1 W1 a hO hF
 refine Vp hF (.bool false) ?_; clear hF; intro a hF
 refine L_nil ?_
 refine hK1 _ _ ?_
 refine wp_seq_k fun K2 hK2 => ?_
 refine wp_region_lit ?_
 refine Vp hF (.string s) ?_; clear hF; intro a hF
 refine Lc hF (ref02_split s 46 W1 (by omega)) ?_
 clear hF; rintro _ W2 a ⟨q1, qc1, rfl, hk⟩ hF
 replace hO := hO.call1 hk; clear hk
 refine Vp hF (.slice q1 ((splitOn s 46).length) qc1) ?_; clear hF; intro a hF
 refine L_nil ?_
 refine hK2 _ _ ?_
 refine wp_seq_k fun K3 hK3 => ?_
 refine wp_region_lit ?_
 refine Vp hF (.agg zFParseR) ?_; clear hF; intro a hF
 refine L_new hF hO (by kernel_rfl) (by kernel_rfl) (vf := fun b => .pointer (some ⟨b, 0, none⟩)) (ob := .cells zFParseR 33) (by kernel_rfl) (by kernel_rfl) ?_
 clear hF hO; intro b2 W3 a hO hF
 obtain ⟨W4, hst, hO1⟩ := run_storeAt (P := Tryz.prog) (k := 17) (T := 33) (off := 0) (v := .agg zFParseR) (cs := zFParseR) (cs' := zFParseR) hO (by kernel_rfl) (by kernel_rfl) (by kernel_rfl) (Nat.le_of_ble_eq_true (by kernel_rfl)) (by kernel_rfl) (.head _)
 refine L_skip hF (by kernel_rfl) (by kernel_rfl) (x_store (p := .pointer (some ⟨b2, 0, none⟩)) (v := .agg zFParseR) rfl (by kernel_rfl) (by kernel_rfl) hst) (by kernel_rfl) ?_
 clear hst hF; intro a hF; replace hO := hO1; clear hO1
 refine L_nil ?_
 refine hK3 _ _ ?_
 refine wp_seq_k fun K4 hK4 => ?_
 refine wp_seq_k fun K5 hK5 => ?_
 refine wp_region_lit ?_
 refine Vp hF (.slice q1 ((splitOn s 46).length) qc1) ?_; clear hF; intro a hF
 refine Vp hF (.int .i64 (((splitOn s 46).length : Int))) ?_; clear hF; intro a hF
 refine Vp hF (.bool (!(((splitOn s 46).length : Int) == 4))) ?_; clear hF; intro a hF
 refine L_nil ?_
 refine hK5 _ _ ?_
 by_cases q2 : ((splitOn s 46).length : Int) = 4
 ·
  replace hF := hF.know (d := 14) (v' := .bool false) (by kernel_rfl) (congrArg Value.bool (neF (not_not_intro q2)))
  refine cond_f hF (by kernel_rfl) (by kernel_rfl) ?_
  refine wp_skip ?_
  refine hK4 _ _ ?_
  refine wp_seq_k fun K6 hK6 => ?_
  refine wp_seq_k fun K7 hK7 => ?_
  refine wp_region_lit ?_
  refine Vp hF (.slice q1 ((splitOn s 46).length) qc1) ?_; clear hF; intro a hF
  refine Vp hF (.int .i64 (((splitOn s 46).length : Int))) ?_; clear hF; intro a hF
  refine Vp hF (.int .i64 0) ?_; clear hF; intro a hF
  refine L_nil ?_
  refine hK7 _ _ ?_
  refine wp_block ?_
  replace hO := hO.reblk (cs := zFParseR) (cs' := (ipL noIp).toArray) (by kernel_rfl) (.head _)
  refine loopX (τ := Nat) (fun (i : Nat) a Wx => (i ≤ 4 ∧ ∀ j, j < i → 0 ≤ numN (nth (splitOn s 46) j) 10 3 ∧ decP (nth (splitOn s 46) j) = numN (nth (splitOn s 46) j) 10 3) ∧ Fr 49 a [(2, .pointer (some ⟨b1, 0, none⟩)), (5, .pointer (some ⟨b2, 0, none⟩)), (16, .slice q1 ((splitOn s 46).length) qc1), (17, .int .i64 (((splitOn s 46).length : Int))), (18, .int .i64 ((i : Int)))] ∧ Own W noX [.blk b2 (.cells (ipL (fAcc (splitOn s 46) i)).toArray 33 (0, 0)), rowL strL 1 9 q1 qc1 (splitOn s 46), .blk b1 (.cells zFParseR 33 (0, 0))] Wx) (fun (i : Nat) => 4 - i) (0) ⟨⟨by omega, fun j h => by omega⟩, ?_, ?_⟩ ?_
  · exact hF.restrict ⟨(by kernel_rfl), (by kernel_rfl), (by kernel_rfl), (by kernel_rfl), (congrArg some (by first | rfl | exact congrArg (Value.int _) (by omega) | simp)), trivial⟩
  · exact hO.sub (.cons_cons _ (.cons_cons _ (.cons_cons _ (List.nil_sublist _))))
  clear hF hO; rintro i a Wl1 ⟨hI, hF, hO⟩ KhK_1 hK_1
  try dsimp only at hI
  refine wp_seq_k fun K8 hK8 => ?_
  refine wp_region_lit ?_
  refine Vp hF (.bool (decide ((i : Int) < ((splitOn s 46).length : Int)))) ?_; clear hF; intro a hF
  refine L_nil ?_
  refine hK8 _ _ ?_
  refine wp_seq_k fun K9 hK9 => ?_
  by_cases q3 : (i : Int) < ((splitOn s 46).length : Int)
  ·
   replace hF := hF.know (d := 19) (v' := .bool true) (by kernel_rfl) (congrArg Value.bool (decide_eq_true q3))
   refine cond_t hF (by kernel_rfl) (by kernel_rfl) ?_
   refine wp_skip ?_
   refine hK9 _ _ ?_
   refine wp_seq_k fun K10 hK10 => ?_
   refine wp_block ?_
   refine wp_seq_k fun K11 hK11 => ?_
   refine wp_region_lit ?_
   refine Vp hF (.int .i64 ((i : Int))) ?_; clear hF; intro a hF
   refine Vr hF (.pointer (some ⟨(ab q1), ao q1 + i * 1, none⟩)) (x_idxAddrS (p := q1) (len := (splitOn s 46).length) (cap := qc1) (elem := 9) (kd := .i64) (k := 1) (i := (i : Int)) rfl (by kernel_rfl) (by kernel_rfl) (by kernel_rfl) (by kernel_rfl) (by omega) (by omega) (SlAt.ne (k := 1) (hO.row (List.mem_cons_of_mem _ List.mem_cons_self)) (fun _ => rfl) (by decide) (by (first | omega | (simp only [List.length_set, List.length_take, List.length_drop, List.length_append, List.length_cons, List.length_nil]; done) | (simp only [List.length_set, List.length_take, List.length_drop, List.length_append, List.length_cons, List.length_nil]; omega) | (simp only [List.length_set, List.length_take, List.length_drop, List.length_append, List.length_cons, List.length_nil] at *; omega)) : i < (splitOn s 46).length))) ?_; clear hF; intro a hF
   refine Vr hF (.string (nth (splitOn s 46) i)) (x_load (p := .pointer (some ⟨(ab q1), ao q1 + i * 1, none⟩)) rfl (by kernel_rfl) (run_loadEl1 (by kernel_rfl) (hO.row (List.mem_cons_of_mem _ List.mem_cons_self)) (fun _ => rfl) (by (first | omega | (simp only [List.length_set, List.length_take, List.length_drop, List.length_append, List.length_cons, List.length_nil]; done) | (simp only [List.length_set, List.length_take, List.length_drop, List.length_append, List.length_cons, List.length_nil]; omega) | (simp only [List.length_set, List.length_take, List.length_drop, List.length_append, List.length_cons, List.length_nil] at *; omega))) rfl)) ?_; clear hF; intro a hF
   refine Vp hF (.int .i64 ((i : Int))) ?_; clear hF; intro a hF
   refine Vp hF (.string (nth (splitOn s 46) i)) ?_; clear hF; intro a hF
   refine L_nil ?_
   refine hK11 _ _ ?_
   refine wp_seq_k fun K12 hK12 => ?_
   refine wp_region_lit ?_
   refine Vp hF (.string (nth (splitOn s 46) i)) ?_; clear hF; intro a hF
   refine Lc hF (ref02_number10 (nth (splitOn s 46) i) Wl1 (by have := split_size s 46 _ (nth_mem (l := splitOn s 46) (i := i) (by omega)); omega)) ?_
   clear hF; rintro _ W5 a ⟨rfl, hk⟩ hF
   replace hO := hO.call0 hk; clear hk
   refine Vp hF (.int .i64 ((numN (nth (splitOn s 46) i) 10 3))) ?_; clear hF; intro a hF
   refine L_nil ?_
   refine hK12 _ _ ?_
   refine wp_seq_k fun K13 hK13 => ?_
   refine wp_seq_k fun K14 hK14 => ?_
   refine wp_region_lit ?_
   refine Vp hF (.int .i64 ((numN (nth (splitOn s 46) i) 10 3))) ?_; clear hF; intro a hF
   refine Vp hF (.bool (decide ((numN (nth (splitOn s 46) i) 10 3) < 0))) ?_; clear hF; intro a hF
   refine Vp hF (.bool (decide ((numN (nth (splitOn s 46) i) 10 3) < 0))) ?_; clear hF; intro a hF
   by_cases q4 : (numN (nth (splitOn s 46) i) 10 3) < 0
   ·
    replace hF := hF.know (d := 27) (v' := .bool true) (by kernel_rfl) (congrArg Value.bool (decide_eq_true q4))
    refine Lo hF ?_; clear hF; intro a hF
    refine Lo hF ?_; clear hF; intro a hF
    refine Vp hF (.bool true) ?_; clear hF; intro a hF
    refine Vp hF (.bool true) ?_; clear hF; intro a hF
    refine Lo hF ?_; clear hF; intro a hF
    refine Lo hF ?_; clear hF; intro a hF
    refine Lo hF ?_; clear hF; intro a hF
    refine Lo hF ?_; clear hF; intro a hF
    refine Lo hF ?_; clear hF; intro a hF
    refine Lo hF ?_; clear hF; intro a hF
    refine Lo hF ?_; clear hF; intro a hF
    refine Lo hF ?_; clear hF; intro a hF
    refine Vp hF (.bool true) ?_; clear hF; intro a hF
    refine L_nil ?_
    refine hK14 _ _ ?_
    refine cond_t hF (by kernel_rfl) (by kernel_rfl) ?_
    refine wp_seq_k fun K15 hK15 => ?_
    refine wp_region_lit ?_
    refine Vp hF (.agg zFParseR) ?_; clear hF; intro a hF
    obtain ⟨W6, hst, hO1⟩ := run_storeAt (P := Tryz.prog) (k := 17) (T := 33) (off := 0) (v := .agg zFParseR) (cs := zFParseR) (cs' := zFParseR) hO (by kernel_rfl) (by kernel_rfl) (by kernel_rfl) (Nat.le_of_ble_eq_true (by kernel_rfl)) (by kernel_rfl) (.tail (.tail (.head _)))
    refine L_skip hF (by kernel_rfl) (by kernel_rfl) (x_store (p := .pointer (some ⟨b1, 0, none⟩)) (v := .agg zFParseR) rfl (by kernel_rfl) (by kernel_rfl) hst) (by kernel_rfl) ?_
    clear hst hF; intro a hF; replace hO := hO1; clear hO1
    refine Vp hF (.bool false) ?_; clear hF; intro a hF
    refine L_nil ?_
    refine hK15 _ _ ?_
    refine wp_ret ?_
    refine then_ret ?_
    refine block_ret ?_
    refine then_ret ?_
    refine then_ret ?_
    refine block_ret ?_
    refine then_ret ?_
    refine ret2 hF (v := ipV noIp) (u := .bool false) rfl (resC (ad := ⟨b1, 0, none⟩) (by kernel_rfl) (run_loadA (k := 17) (by kernel_rfl) (by kernel_rfl) (hO.blk (List.mem_cons_of_mem _ (List.mem_cons_of_mem _ List.mem_cons_self))) (by kernel_rfl) (by kernel_rfl))) (resT (by kernel_rfl)) (by refine ⟨?_, hO.nil⟩; first | (rw [dot_len (by assumption)]; rfl) | (rw [dot_bad (i := i) (by omega) (decP_bad (by first | exact .inl (by omega) | exact .inr (.inl (by omega)) | exact .inr (.inr ⟨by omega, u8_eq (by assumption)⟩)))]; rfl) | (obtain rfl : i = 4 := (by omega); rw [four_ok (by omega) hI.2]; rfl)) .ret (.inl rfl)
   ·
    replace hF := hF.know (d := 27) (v' := .bool false) (by kernel_rfl) (congrArg Value.bool (decide_eq_false q4))
    refine Vp hF (.int .i64 ((numN (nth (splitOn s 46) i) 10 3))) ?_; clear hF; intro a hF
    refine Vp hF (.bool (decide ((numN (nth (splitOn s 46) i) 10 3) > 255))) ?_; clear hF; intro a hF
    refine Vp hF (.bool (decide ((numN (nth (splitOn s 46) i) 10 3) > 255))) ?_; clear hF; intro a hF
    refine Vp hF (.bool (decide ((numN (nth (splitOn s 46) i) 10 3) > 255))) ?_; clear hF; intro a hF
    by_cases q5 : (numN (nth (splitOn s 46) i) 10 3) > 255
    ·
     replace hF := hF.know (d := 31) (v' := .bool true) (by kernel_rfl) (congrArg Value.bool (decide_eq_true q5))
     refine Lo hF ?_; clear hF; intro a hF
     refine Lo hF ?_; clear hF; intro a hF
     refine Lo hF ?_; clear hF; intro a hF
     refine Lo hF ?_; clear hF; intro a hF
     refine Lo hF ?_; clear hF; intro a hF
     refine Lo hF ?_; clear hF; intro a hF
     refine Lo hF ?_; clear hF; intro a hF
     refine Lo hF ?_; clear hF; intro a hF
     refine Vp hF (.bool true) ?_; clear hF; intro a hF
     refine L_nil ?_
     refine hK14 _ _ ?_
     refine cond_t hF (by kernel_rfl) (by kernel_rfl) ?_
     refine wp_seq_k fun K16 hK16 => ?_
     refine wp_region_lit ?_
     refine Vp hF (.agg zFParseR) ?_; clear hF; intro a hF
     obtain ⟨W7, hst, hO1⟩ := run_storeAt (P := Tryz.prog) (k := 17) (T := 33) (off := 0) (v := .agg zFParseR) (cs := zFParseR) (cs' := zFParseR) hO (by kernel_rfl) (by kernel_rfl) (by kernel_rfl) (Nat.le_of_ble_eq_true (by kernel_rfl)) (by kernel_rfl) (.tail (.tail (.head _)))
     refine L_skip hF (by kernel_rfl) (by kernel_rfl) (x_store (p := .pointer (some ⟨b1, 0, none⟩)) (v := .agg zFParseR) rfl (by kernel_rfl) (by kernel_rfl) hst) (by kernel_rfl) ?_
     clear hst hF; intro a hF; replace hO := hO1; clear hO1
     refine Vp hF (.bool false) ?_; clear hF; intro a hF
     refine L_nil ?_
     refine hK16 _ _ ?_
     refine wp_ret ?_
     refine then_ret ?_
     refine block_ret ?_
     refine then_ret ?_
     refine then_ret ?_
     refine block_ret ?_
     refine then_ret ?_
     refine ret2 hF (v := ipV noIp) (u := .bool false) rfl (resC (ad := ⟨b1, 0, none⟩) (by kernel_rfl) (run_loadA (k := 17) (by kernel_rfl) (by kernel_rfl) (hO.blk (List.mem_cons_of_mem _ (List.mem_cons_of_mem _ List.mem_cons_self))) (by kernel_rfl) (by kernel_rfl))) (resT (by kernel_rfl)) (by refine ⟨?_, hO.nil⟩; first | (rw [dot_len (by assumption)]; rfl) | (rw [dot_bad (i := i) (by omega) (decP_bad (by first | exact .inl (by omega) | exact .inr (.inl (by omega)) | exact .inr (.inr ⟨by omega, u8_eq (by assumption)⟩)))]; rfl) | (obtain rfl : i = 4 := (by omega); rw [four_ok (by omega) hI.2]; rfl)) .ret (.inl rfl)
    ·
     replace hF := hF.know (d := 31) (v' := .bool false) (by kernel_rfl) (congrArg Value.bool (decide_eq_false q5))
     refine Vp hF (.string (nth (splitOn s 46) i)) ?_; clear hF; intro a hF
     refine Vp hF (.int .i64 (((nth (splitOn s 46) i).size : Int))) ?_; clear hF; intro a hF
     refine Vp hF (.bool (decide (((nth (splitOn s 46) i).size : Int) > 1))) ?_; clear hF; intro a hF
     refine Vp hF (.bool (decide (((nth (splitOn s 46) i).size : Int) > 1))) ?_; clear hF; intro a hF
     by_cases q6 : ((nth (splitOn s 46) i).size : Int) > 1
     ·
      replace hF := hF.know (d := 35) (v' := .bool true) (by kernel_rfl) (congrArg Value.bool (decide_eq_true q6))
      refine Vp hF (.string (nth (splitOn s 46) i)) ?_; clear hF; intro a hF
      refine Vr hF (.int .u8 (bt (nth (splitOn s 46) i) 0)) (x_idxStr (s := nth (splitOn s 46) i) (k := .i64) (i := 0) rfl (by kernel_rfl) (by kernel_rfl) (by kernel_rfl) (by omega) (by omega)) ?_; clear hF; intro a hF
      refine Vp hF (.bool ((bt (nth (splitOn s 46) i) 0) == 48)) ?_; clear hF; intro a hF
      refine Vp hF (.bool ((bt (nth (splitOn s 46) i) 0) == 48)) ?_; clear hF; intro a hF
      refine Vp hF (.bool ((bt (nth (splitOn s 46) i) 0) == 48)) ?_; clear hF; intro a hF
      refine L_nil ?_
      refine hK14 _ _ ?_
      by_cases q7 : bt (nth (splitOn s 46) i) 0 = 48
      ·
       replace hF := hF.know (d := 40) (v' := .bool true) (by kernel_rfl) (congrArg Value.bool (eqT q7))
       refine cond_t hF (by kernel_rfl) (by kernel_rfl) ?_
       refine wp_seq_k fun K17 hK17 => ?_
       refine wp_region_lit ?_
       refine Vp hF (.agg zFParseR) ?_; clear hF; intro a hF
       obtain ⟨W8, hst, hO1⟩ := run_storeAt (P := Tryz.prog) (k := 17) (T := 33) (off := 0) (v := .agg zFParseR) (cs := zFParseR) (cs' := zFParseR) hO (by kernel_rfl) (by kernel_rfl) (by kernel_rfl) (Nat.le_of_ble_eq_true (by kernel_rfl)) (by kernel_rfl) (.tail (.tail (.head _)))
       refine L_skip hF (by kernel_rfl) (by kernel_rfl) (x_store (p := .pointer (some ⟨b1, 0, none⟩)) (v := .agg zFParseR) rfl (by kernel_rfl) (by kernel_rfl) hst) (by kernel_rfl) ?_
       clear hst hF; intro a hF; replace hO := hO1; clear hO1
       refine Vp hF (.bool false) ?_; clear hF; intro a hF
       refine L_nil ?_
       refine hK17 _ _ ?_
       refine wp_ret ?_
       refine then_ret ?_
       refine block_ret ?_
       refine then_ret ?_
       refine then_ret ?_
       refine block_ret ?_
       refine then_ret ?_
       refine ret2 hF (v := ipV noIp) (u := .bool false) rfl (resC (ad := ⟨b1, 0, none⟩) (by kernel_rfl) (run_loadA (k := 17) (by kernel_rfl) (by kernel_rfl) (hO.blk (List.mem_cons_of_mem _ (List.mem_cons_of_mem _ List.mem_cons_self))) (by kernel_rfl) (by kernel_rfl))) (resT (by kernel_rfl)) (by refine ⟨?_, hO.nil⟩; first | (rw [dot_len (by assumption)]; rfl) | (rw [dot_bad (i := i) (by omega) (decP_bad (by first | exact .inl (by omega) | exact .inr (.inl (by omega)) | exact .inr (.inr ⟨by omega, u8_eq (by assumption)⟩)))]; rfl) | (obtain rfl : i = 4 := (by omega); rw [four_ok (by omega) hI.2]; rfl)) .ret (.inl rfl)
      ·
       replace hF := hF.know (d := 40) (v' := .bool false) (by kernel_rfl) (congrArg Value.bool (eqF q7))
       refine cond_f hF (by kernel_rfl) (by kernel_rfl) ?_
       refine wp_skip ?_
       refine hK13 _ _ ?_
       refine wp_region_lit ?_
       refine Vp hF (.int .i64 ((i : Int))) ?_; clear hF; intro a hF
       refine Vp hF (.int .i64 ((numN (nth (splitOn s 46) i) 10 3))) ?_; clear hF; intro a hF
       refine Vr hF (.int .u8 (((ub (numN (nth (splitOn s 46) i) 10 3)).toNat : Int))) (x_int (x := IntKind.u8.wrap ((numN (nth (splitOn s 46) i) 10 3))) (ub_wrap _) (by kernel_rfl)) ?_; clear hF; intro a hF
       refine Vp hF (.pointer (some ⟨b2, 1, none⟩)) ?_; clear hF; intro a hF
       refine Vr hF (.pointer (some ⟨b2, 1 + i * 1, none⟩)) (x_idxPtr (b := b2) (off := 1) (elem := 5) (len := 16) (kd := .i64) (k := 1) (i := (i : Int)) rfl (by kernel_rfl) (by kernel_rfl) (by kernel_rfl) (by kernel_rfl) (by omega) (by omega)) ?_; clear hF; intro a hF
       obtain ⟨W9, hst, hO1⟩ := run_store_ip (P := Tryz.prog) (T := 5) (i := i) (v := (ub (numN (nth (splitOn s 46) i) 10 3))) hO (by kernel_rfl) (by (first | omega | (simp only [List.length_set, List.length_take, List.length_drop, List.length_append, List.length_cons, List.length_nil]; done) | (simp only [List.length_set, List.length_take, List.length_drop, List.length_append, List.length_cons, List.length_nil]; omega) | (simp only [List.length_set, List.length_take, List.length_drop, List.length_append, List.length_cons, List.length_nil] at *; omega))) (.head _)
       refine L_skip hF (by kernel_rfl) (by kernel_rfl) (x_store (p := .pointer (some ⟨b2, 1 + i * 1, none⟩)) (v := .int .u8 (((ub (numN (nth (splitOn s 46) i) 10 3)).toNat : Int))) rfl (by kernel_rfl) (by kernel_rfl) hst) (by kernel_rfl) ?_
       clear hst hF; intro a hF; replace hO := hO1; clear hO1
       refine L_nil ?_
       refine block_normal ?_
       refine hK10 _ _ ?_
       refine wp_region_lit ?_
       refine Vr hF (.int .i64 ((i : Int) + 1)) (x_int (x := IntKind.i64.wrap ((i : Int) + 1)) (i64In (by omega) (by omega)) (by kernel_rfl)) ?_; clear hF; intro a hF
       refine Vp hF (.int .i64 ((i : Int) + 1)) ?_; clear hF; intro a hF
       refine L_nil ?_
       refine hK_1 (i + 1) _ _ (by first | omega | (dsimp only; omega)) ⟨⟨by omega, four_round hI.2 (by omega) (by omega) (by first | (rintro ⟨h1, h2⟩; omega) | (rintro ⟨h1, h2⟩; exact absurd h2 (u8_ne (by assumption))))⟩, ?_, ?_⟩
       · exact hF.restrict ⟨(by kernel_rfl), (by kernel_rfl), (by kernel_rfl), (by kernel_rfl), (congrArg some (by first | rfl | exact congrArg (Value.int _) (by omega) | simp)), trivial⟩
       · exact hO.sub (.cons_cons _ (.cons_cons _ (.cons_cons _ (List.nil_sublist _))))
     ·
      replace hF := hF.know (d := 35) (v' := .bool false) (by kernel_rfl) (congrArg Value.bool (decide_eq_false q6))
      refine Lo hF ?_; clear hF; intro a hF
      refine Lo hF ?_; clear hF; intro a hF
      refine Lo hF ?_; clear hF; intro a hF
      refine Vp hF (.bool false) ?_; clear hF; intro a hF
      refine Vp hF (.bool false) ?_; clear hF; intro a hF
      refine L_nil ?_
      refine hK14 _ _ ?_
      refine cond_f hF (by kernel_rfl) (by kernel_rfl) ?_
      refine wp_skip ?_
      refine hK13 _ _ ?_
      refine wp_region_lit ?_
      refine Vp hF (.int .i64 ((i : Int))) ?_; clear hF; intro a hF
      refine Vp hF (.int .i64 ((numN (nth (splitOn s 46) i) 10 3))) ?_; clear hF; intro a hF
      refine Vr hF (.int .u8 (((ub (numN (nth (splitOn s 46) i) 10 3)).toNat : Int))) (x_int (x := IntKind.u8.wrap ((numN (nth (splitOn s 46) i) 10 3))) (ub_wrap _) (by kernel_rfl)) ?_; clear hF; intro a hF
      refine Vp hF (.pointer (some ⟨b2, 1, none⟩)) ?_; clear hF; intro a hF
      refine Vr hF (.pointer (some ⟨b2, 1 + i * 1, none⟩)) (x_idxPtr (b := b2) (off := 1) (elem := 5) (len := 16) (kd := .i64) (k := 1) (i := (i : Int)) rfl (by kernel_rfl) (by kernel_rfl) (by kernel_rfl) (by kernel_rfl) (by omega) (by omega)) ?_; clear hF; intro a hF
      obtain ⟨W10, hst, hO1⟩ := run_store_ip (P := Tryz.prog) (T := 5) (i := i) (v := (ub (numN (nth (splitOn s 46) i) 10 3))) hO (by kernel_rfl) (by (first | omega | (simp only [List.length_set, List.length_take, List.length_drop, List.length_append, List.length_cons, List.length_nil]; done) | (simp only [List.length_set, List.length_take, List.length_drop, List.length_append, List.length_cons, List.length_nil]; omega) | (simp only [List.length_set, List.length_take, List.length_drop, List.length_append, List.length_cons, List.length_nil] at *; omega))) (.head _)
      refine L_skip hF (by kernel_rfl) (by kernel_rfl) (x_store (p := .pointer (some ⟨b2, 1 + i * 1, none⟩)) (v := .int .u8 (((ub (numN (nth (splitOn s 46) i) 10 3)).toNat : Int))) rfl (by kernel_rfl) (by kernel_rfl) hst) (by kernel_rfl) ?_
      clear hst hF; intro a hF; replace hO := hO1; clear hO1
      refine L_nil ?_
      refine block_normal ?_
      refine hK10 _ _ ?_
      refine wp_region_lit ?_
      refine Vr hF (.int .i64 ((i : Int) + 1)) (x_int (x := IntKind.i64.wrap ((i : Int) + 1)) (i64In (by omega) (by omega)) (by kernel_rfl)) ?_; clear hF; intro a hF
      refine Vp hF (.int .i64 ((i : Int) + 1)) ?_; clear hF; intro a hF
      refine L_nil ?_
      refine hK_1 (i + 1) _ _ (by first | omega | (dsimp only; omega)) ⟨⟨by omega, four_round hI.2 (by omega) (by omega) (by first | (rintro ⟨h1, h2⟩; omega) | (rintro ⟨h1, h2⟩; exact absurd h2 (u8_ne (by assumption))))⟩, ?_, ?_⟩
      · exact hF.restrict ⟨(by kernel_rfl), (by kernel_rfl), (by kernel_rfl), (by kernel_rfl), (congrArg some (by first | rfl | exact congrArg (Value.int _) (by omega) | simp)), trivial⟩
      · exact hO.sub (.cons_cons _ (.cons_cons _ (.cons_cons _ (List.nil_sublist _))))
  ·
   replace hF := hF.know (d := 19) (v' := .bool false) (by kernel_rfl) (congrArg Value.bool (decide_eq_false q3))
   refine cond_f hF (by kernel_rfl) (by kernel_rfl) ?_
   refine wp_exit ?_
   refine then_exit ?_
   refine then_exit ?_
   refine inBlock_hit ?_
   refine hK6 _ _ ?_
   refine wp_seq_k fun K18 hK18 => ?_
   refine wp_region_lit ?_
   refine Vr hF (ipV (fAcc (splitOn s 46) i)) (x_load (p := .pointer (some ⟨b2, 0, none⟩)) rfl (by kernel_rfl) (run_loadA (k := 17) (by kernel_rfl) (by kernel_rfl) (hO.blk List.mem_cons_self) (by kernel_rfl) (by kernel_rfl))) ?_; clear hF; intro a hF
   obtain ⟨W11, hst, hO1⟩ := run_storeAt (P := Tryz.prog) (k := 17) (T := 33) (off := 0) (v := ipV (fAcc (splitOn s 46) i)) (cs := zFParseR) (cs' := (ipL (fAcc (splitOn s 46) i)).toArray) hO (by kernel_rfl) (by kernel_rfl) (by kernel_rfl) (Nat.le_of_ble_eq_true (by kernel_rfl)) (by kernel_rfl) (.tail (.tail (.head _)))
   refine L_skip hF (by kernel_rfl) (by kernel_rfl) (x_store (p := .pointer (some ⟨b1, 0, none⟩)) (v := ipV (fAcc (splitOn s 46) i)) rfl (by kernel_rfl) (by kernel_rfl) hst) (by kernel_rfl) ?_
   clear hst hF; intro a hF; replace hO := hO1; clear hO1
   refine Vp hF (.bool true) ?_; clear hF; intro a hF
   refine L_nil ?_
   refine hK18 _ _ ?_
   refine wp_ret ?_
   refine ret2 hF (v := ipV (fAcc (splitOn s 46) i)) (u := .bool true) rfl (resC (ad := ⟨b1, 0, none⟩) (by kernel_rfl) (run_loadA (k := 17) (by kernel_rfl) (by kernel_rfl) (hO.blk (List.mem_cons_of_mem _ (List.mem_cons_of_mem _ List.mem_cons_self))) (by kernel_rfl) (by kernel_rfl))) (resT (by kernel_rfl)) (by refine ⟨?_, hO.nil⟩; first | (rw [dot_len (by assumption)]; rfl) | (rw [dot_bad (i := i) (by omega) (decP_bad (by first | exact .inl (by omega) | exact .inr (.inl (by omega)) | exact .inr (.inr ⟨by omega, u8_eq (by assumption)⟩)))]; rfl) | (obtain rfl : i = 4 := (by omega); rw [four_ok (by omega) hI.2]; rfl)) .ret (.inl rfl)
 ·
  replace hF := hF.know (d := 14) (v' := .bool true) (by kernel_rfl) (congrArg Value.bool (neT q2))
  refine cond_t hF (by kernel_rfl) (by kernel_rfl) ?_
  refine wp_seq_k fun K19 hK19 => ?_
  refine wp_region_lit ?_
  refine Vr hF (ipV noIp) (x_load (p := .pointer (some ⟨b2, 0, none⟩)) rfl (by kernel_rfl) (run_loadA (k := 17) (by kernel_rfl) (by kernel_rfl) (hO.blk List.mem_cons_self) (by kernel_rfl) (by kernel_rfl))) ?_; clear hF; intro a hF
  obtain ⟨W12, hst, hO1⟩ := run_storeAt (P := Tryz.prog) (k := 17) (T := 33) (off := 0) (v := ipV noIp) (cs := zFParseR) (cs' := (ipL noIp).toArray) hO (by kernel_rfl) (by kernel_rfl) (by kernel_rfl) (Nat.le_of_ble_eq_true (by kernel_rfl)) (by kernel_rfl) (.tail (.tail (.head _)))
  refine L_skip hF (by kernel_rfl) (by kernel_rfl) (x_store (p := .pointer (some ⟨b1, 0, none⟩)) (v := ipV noIp) rfl (by kernel_rfl) (by kernel_rfl) hst) (by kernel_rfl) ?_
  clear hst hF; intro a hF; replace hO := hO1; clear hO1
  refine Vp hF (.bool false) ?_; clear hF; intro a hF
  refine L_nil ?_
  refine hK19 _ _ ?_
  refine wp_ret ?_
  refine then_ret ?_
  refine ret2 hF (v := ipV noIp) (u := .bool false) rfl (resC (ad := ⟨b1, 0, none⟩) (by kernel_rfl) (run_loadA (k := 17) (by kernel_rfl) (by kernel_rfl) (hO.blk (List.mem_cons_of_mem _ (List.mem_cons_of_mem _ List.mem_cons_self))) (by kernel_rfl) (by kernel_rfl))) (resT (by kernel_rfl)) (by refine ⟨?_, hO.nil⟩; first | (rw [dot_len (by assumption)]; rfl) | (rw [dot_bad (i := i) (by omega) (decP_bad (by first | exact .inl (by omega) | exact .inr (.inl (by omega)) | exact .inr (.inr ⟨by omega, u8_eq (by assumption)⟩)))]; rfl) | (obtain rfl : i = 4 := (by omega); rw [four_ok (by omega) hI.2]; rfl)) .ret (.inl rfl)

end Go.Proofs.YthellfigmpjhlaaGreatDoor
