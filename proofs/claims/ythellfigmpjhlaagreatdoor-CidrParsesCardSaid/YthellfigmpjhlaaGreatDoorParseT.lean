/- linkboyref02.Parse, walked. -/
import Derived.Test.YthellfigmpjhlaaGreatDoorParseR
namespace Go.Proofs.YthellfigmpjhlaaGreatDoor
open Go Go.RowKit
set_option linter.unusedVariables false
set_option linter.unusedSimpArgs false
abbrev zFParseT : Array Value := #[.bool false, .int .u8 0, .int .u8 0, .int .u8 0, .int .u8 0, .int .u8 0, .int .u8 0, .int .u8 0, .int .u8 0, .int .u8 0, .int .u8 0, .int .u8 0, .int .u8 0, .int .u8 0, .int .u8 0, .int .u8 0, .int .u8 0]
abbrev zTParseT : Array Value := #[.bool true, .int .u8 0, .int .u8 0, .int .u8 0, .int .u8 0, .int .u8 0, .int .u8 0, .int .u8 0, .int .u8 0, .int .u8 0, .int .u8 0, .int .u8 0, .int .u8 0, .int .u8 0, .int .u8 0, .int .u8 0, .int .u8 0]
/-! ### linkboyref02.Parse -/
def hasI (s : ByteArray) (i : Nat) : Bool := decide ((58 : UInt8) ∈ s.data.toList.take i)
theorem hasI_one {s : ByteArray} {i : Nat} (hi : i < s.data.toList.length) : hasI s (i + 1) = (hasI s i || btB s (i : Int) == 58) := by
  unfold hasI
  rw [btB_eq hi, ← List.take_append_getElem hi, Bool.eq_iff_iff]
  simp only [Bool.or_eq_true, decide_eq_true_iff, List.mem_append, List.mem_singleton, beq_iff_eq]
  exact or_congr Iff.rfl eq_comm
theorem hasI_t {s : ByteArray} {i : Nat} (hi : i < s.data.toList.length) (h : hasI s i = true) : true = hasI s (i + 1) := by rw [hasI_one hi, h]; rfl
theorem hasI_f {s : ByteArray} {i : Nat} (hi : i < s.data.toList.length) (h : hasI s i = false) : (bt s (i : Int) == 58) = hasI s (i + 1) := by
  rw [hasI_one hi, h, Bool.false_or, Bool.eq_iff_iff, beq_iff_eq, beq_iff_eq]
  exact ⟨fun e => u8_eq e, fun e => by show ((btB s (i : Int)).toNat : Int) = 58; rw [e]; rfl⟩
theorem hasI_all {s : ByteArray} {i : Nat} (hi : s.data.toList.length ≤ i) : hasI s i = hasC s := by
  rw [Bool.eq_iff_iff, hasC_iff, hasI, List.take_of_length_le hi, decide_eq_true_iff]
theorem hasI_pos {s : ByteArray} {i : Nat} (h : hasI s i = true) : 0 < s.data.toList.length := by
  have := List.length_pos_of_mem (of_decide_eq_true h)
  rw [List.length_take] at this
  omega
theorem ref_four {s : ByteArray} {i : Nat} (hi : s.data.toList.length ≤ i) (h : hasI s i = false) : parseIp s = dotP s := by
  rw [hasI_all hi] at h
  rw [parseIp, h]; rfl
def firstD (l : List UInt8) : Int := match cutC l with | some (h, _) => (h.length : Int) | none => -1
def cutF (s : ByteArray) (j : Nat) : Int := if firstD (s.data.toList.drop j) < 0 then -1 else (j : Int) + firstD (s.data.toList.drop j)
theorem cutF_last (s : ByteArray) (j : Nat) (h : s.data.toList.length ≤ j + 1) : cutF s j = -1 := by
  have hl : (s.data.toList.drop j).length ≤ 1 := by rw [List.length_drop]; omega
  unfold cutF
  match h : s.data.toList.drop j, hl with
  | [], _ => rfl
  | [a], _ => rfl
theorem firstD_hit (r : List UInt8) : firstD (58 :: 58 :: r) = 0 := rfl
theorem firstD_miss {a b : UInt8} (r : List UInt8) (h : ¬ (a = 58 ∧ b = 58)) : firstD (a :: b :: r) = if firstD (b :: r) < 0 then -1 else 1 + firstD (b :: r) := by
  unfold firstD
  rw [cutC, if_neg h]
  cases cutC (b :: r) with
  | none => rfl
  | some p => simp; omega
theorem firstD_ge (l : List UInt8) : -1 ≤ firstD l := by unfold firstD; split <;> omega
theorem cutF_two {s : ByteArray} {j : Nat} (h : j + 1 < s.data.toList.length) : s.data.toList.drop j = btB s (j : Int) :: btB s ((j : Int) + 1) :: s.data.toList.drop (j + 2) := by
  rw [List.drop_eq_getElem_cons (by omega), List.drop_eq_getElem_cons (i := j + 1) (by omega), btB_eq (by omega), show (j : Int) + 1 = ((j + 1 : Nat) : Int) by omega, btB_eq (by omega)]
theorem cutF_hit {s : ByteArray} {j : Nat} (h : j + 1 < s.data.toList.length) (h1 : btB s (j : Int) = 58) (h2 : btB s ((j : Int) + 1) = 58) : cutF s j = j := by
  rw [cutF, cutF_two h, h1, h2, firstD_hit]; simp
theorem cutF_miss {s : ByteArray} {j : Nat} (h : j + 1 < s.data.toList.length) (h1 : ¬ (btB s (j : Int) = 58 ∧ btB s ((j : Int) + 1) = 58)) : cutF s j = cutF s (j + 1) := by
  have hd : s.data.toList.drop (j + 1) = btB s ((j : Int) + 1) :: s.data.toList.drop (j + 2) := by rw [List.drop_eq_getElem_cons (by omega), show (j : Int) + 1 = ((j + 1 : Nat) : Int) by omega, btB_eq (by omega)]
  rw [cutF, cutF, cutF_two h, firstD_miss _ h1, ← hd]
  have := firstD_ge (s.data.toList.drop (j + 1))
  split <;> split <;> omega
theorem firstD_bd : ∀ l : List UInt8, firstD l < 0 ∨ firstD l + 2 ≤ (l.length : Int)
  | [] => .inl (by decide)
  | [a] => .inl (by show (-1 : Int) < 0; decide)
  | a :: b :: r => by
    by_cases h : a = 58 ∧ b = 58
    · obtain ⟨rfl, rfl⟩ := h
      rw [firstD_hit]; exact .inr (by simp only [List.length_cons]; omega)
    · rw [firstD_miss r h]
      have := firstD_bd (b :: r)
      simp only [List.length_cons] at *
      split <;> omega
theorem cutF_bd (s : ByteArray) (j : Nat) : -1 ≤ cutF s j ∧ (cutF s j < 0 ∨ cutF s j + 2 ≤ (s.data.toList.length : Int)) := by
  have h1 := firstD_bd (s.data.toList.drop j)
  rw [List.length_drop] at h1
  unfold cutF
  split <;> omega
theorem ext_le (s : ByteArray) (a b : Nat) : (s.extract a b).size ≤ s.size := by rw [ByteArray.size_extract]; omega
theorem ub_quo {n : Int} : ub (n / 256) = ub (n.fdiv 256) := by rw [Int.fdiv_eq_ediv_of_nonneg _ (by omega)]
theorem ub_rem {n : Int} : ub (n % 256) = ub n := by unfold ub; rw [show n % 256 % 256 = n % 256 by omega]
theorem roundR {s : ByteArray} {i : Nat} {acc : List UInt8} (hI : i ≤ (splitOn s 58).length ∧ (∀ j, j < i → 0 ≤ grpP (nth (splitOn s 58) j)) ∧ acc = ((splitOn s 58).take i).flatMap grpB ∧ acc.length ≤ 2 * i) (hi : (i : Int) < ((splitOn s 58).length : Int)) (hx : ¬ grpP (nth (splitOn s 58) i) < 0) :
    i + 1 ≤ (splitOn s 58).length ∧ (∀ j, j < i + 1 → 0 ≤ grpP (nth (splitOn s 58) j)) ∧ acc ++ ([ub (grpP (nth (splitOn s 58) i) / 256), ub (grpP (nth (splitOn s 58) i) % 256)] : List UInt8) = ((splitOn s 58).take (i + 1)).flatMap grpB ∧ (acc ++ ([ub (grpP (nth (splitOn s 58) i) / 256), ub (grpP (nth (splitOn s 58) i) % 256)] : List UInt8)).length ≤ 2 * (i + 1) := by
  have h := rowRound ⟨hI.1, hI.2.1, hI.2.2.1⟩ hi hx
  rw [ub_quo, ub_rem]
  exact ⟨h.1, h.2.1, h.2.2, acc_len h.2.2⟩
/-- A round of the second loop, from j + 1 to j. -/
theorem cut_r {s : ByteArray} {j : Nat} (h0 : 0 < j) (h : j < s.data.toList.length) (h1 : ¬ (btB s ((j : Int) - 1) = 58 ∧ btB s ((j : Int) - 1 + 1) = 58)) : cutF s j = cutF s (j - 1) := by
  obtain ⟨k, rfl⟩ : ∃ k, j = k + 1 := ⟨j - 1, by omega⟩
  rw [show ((k + 1 : Nat) : Int) - 1 = (k : Int) by omega] at h1
  exact (cutF_miss h h1).symm
theorem cut_h {s : ByteArray} {j : Nat} (h0 : 0 < j) (h : j < s.data.toList.length) (h1 : btB s ((j : Int) - 1) = 58) (h2 : btB s ((j : Int) - 1 + 1) = 58) : (j : Int) - 1 = cutF s (j - 1) := by
  obtain ⟨k, rfl⟩ : ∃ k, j = k + 1 := ⟨j - 1, by omega⟩
  rw [show ((k + 1 : Nat) : Int) - 1 = (k : Int) by omega] at h1 h2
  rw [Nat.add_sub_cancel, cutF_hit h h1 h2]; omega
theorem fig_hex : ∀ n : Fin 256, (if figN (UInt8.ofNat n.val) < 0 ∨ 16 ≤ figN (UInt8.ofNat n.val) then -1 else figN (UInt8.ofNat n.val)) = Lib.indexByte hexS.data.toList (Lib.lowerB (UInt8.ofNat n.val)) := by decide +kernel
theorem hex_fig (c : UInt8) : (if figN c < 0 ∨ 16 ≤ figN c then -1 else figN c) = Lib.indexByte hexS.data.toList (Lib.lowerB c) := by
  have h := fig_hex ⟨c.toNat, c.toNat_lt⟩
  rw [show UInt8.ofNat (⟨c.toNat, c.toNat_lt⟩ : Fin 256).val = c by simp] at h
  exact h
theorem ng_grp : ∀ (l : List UInt8) (n : Int), numGo 16 l n = grpGo (Lib.toLowerA l) n
  | [], n => rfl
  | c :: t, n => by
    have h := hex_fig c
    have ih := ng_grp t
    show (if figN c < 0 ∨ 16 ≤ figN c then -1 else numGo 16 t (n * 16 + figN c)) = (if Lib.indexByte hexS.data.toList (Lib.lowerB c) < 0 then -1 else grpGo (Lib.toLowerA t) (n * 16 + Lib.indexByte hexS.data.toList (Lib.lowerB c)))
    rw [← h]
    by_cases h1 : figN c < 0 ∨ 16 ≤ figN c
    · rw [if_pos h1, if_pos h1, if_pos (by decide)]
    · rw [if_neg h1, if_neg h1, if_neg (by omega), ih]
theorem num16_grp (s : ByteArray) : numN s 16 4 = grpP s := by
  unfold numN grpP
  by_cases h : s.size < 1 ∨ (4 : Int) < s.size
  · rw [if_pos h, if_pos (by omega)]
  · rw [if_neg h, if_neg (by omega), ng_grp]; rfl
theorem cutC_shape : ∀ {l h t : List UInt8}, cutC l = some (h, t) → l = h ++ 58 :: 58 :: t
  | [], _, _, e => by cases e
  | [_], _, _, e => by cases e
  | a :: b :: l, h, t, e => by
    unfold cutC at e
    split at e
    · rename_i hc; obtain ⟨rfl, rfl⟩ := hc; cases e; rfl
    · cases hc : cutC (b :: l) with
      | none => rw [hc] at e; cases e
      | some p =>
        rw [hc] at e
        simp only [Option.map_some, Option.some.injEq, Prod.mk.injEq] at e
        obtain ⟨rfl, rfl⟩ := e
        exact congrArg (a :: ·) (cutC_shape hc)
theorem cutF_zero (s : ByteArray) : cutF s 0 = firstD s.data.toList := by
  have := firstD_ge s.data.toList
  unfold cutF; rw [List.drop_zero]; split <;> omega
theorem cut_none {s : ByteArray} (h : cutF s 0 < 0) : cutH s = s ∧ cutT s = ⟨#[]⟩ ∧ cutY s = false := by
  rw [cutF_zero] at h
  have hc : cutC s.data.toList = none := by
    unfold firstD at h
    cases e : cutC s.data.toList with
    | none => rfl
    | some p => rw [e] at h; dsimp only at h; omega
  have hi := cutC_index s.data.toList
  rw [hc] at hi; dsimp only at hi
  unfold cutH cutT cutY; rw [hi]
  exact ⟨by simp, rfl, rfl⟩
theorem cut_some {s : ByteArray} (h : ¬ cutF s 0 < 0) : cutH s = s.extract 0 (cutF s 0).toNat ∧ cutT s = s.extract (cutF s 0 + 2).toNat s.size ∧ cutY s = true := by
  rw [cutF_zero] at h ⊢
  obtain ⟨p, hc⟩ : ∃ p, cutC s.data.toList = some p := by
    cases e : cutC s.data.toList with
    | none => unfold firstD at h; rw [e] at h; exact absurd (by decide : (-1 : Int) < 0) h
    | some p => exact ⟨p, rfl⟩
  obtain ⟨x, t⟩ := p
  have hs := cutC_shape hc
  have hf : firstD s.data.toList = x.length := by unfold firstD; rw [hc]
  have hi := cutC_index s.data.toList
  rw [hc] at hi; dsimp only at hi
  have hll : s.data.toList.length = s.size := Array.length_toList
  unfold cutH cutT cutY; rw [hi, hf]
  refine ⟨ByteArray.ext (Array.toList_inj.1 ?_), ByteArray.ext (Array.toList_inj.1 ?_), rfl⟩
  · rw [ByteArray.data_extract, Array.toList_extract, hs, List.extract_eq_take_drop]; simp
  · rw [ByteArray.data_extract, Array.toList_extract, ← hll, hs, List.extract_eq_take_drop, show ((x.length : Int) + 2).toNat = x.length + 2 by omega, List.take_of_length_le (by rw [List.length_drop]; exact Nat.le_refl _), show x ++ 58 :: 58 :: t = (x ++ [58, 58]) ++ t by simp, List.drop_left' (by simp)]
def Rowd (x : ByteArray) (A : List UInt8) : Prop := rowOk x = true ∧ rowB x = A
theorem piece_ok {x : ByteArray} {i : Nat} {acc : List UInt8} (h0 : 0 < (x.size : Int)) (hi : ¬ (i : Int) < ((splitOn x 58).length : Int)) (hI : i ≤ (splitOn x 58).length ∧ (∀ j, j < i → 0 ≤ grpP (nth (splitOn x 58) j)) ∧ acc = ((splitOn x 58).take i).flatMap grpB ∧ acc.length ≤ 2 * i) : Rowd x acc :=
  row_good (fun e => by rw [e] at h0; exact absurd h0 (by decide)) hi ⟨hI.1, hI.2.1, hI.2.2.1⟩
theorem piece_bad {x : ByteArray} {i : Nat} (h0 : 0 < (x.size : Int)) (hi : (i : Int) < ((splitOn x 58).length : Int)) (hx : grpP (nth (splitOn x 58) i) < 0) : rowOk x = false :=
  (row_bad (fun e => by rw [e] at h0; exact absurd h0 (by decide)) (by omega) hx).1
theorem piece_nil {x : ByteArray} (h0 : ¬ 0 < (x.size : Int)) : Rowd x [] := rowOk_e ((empty_iff x).2 (by omega))
theorem par_no {s : ByteArray} (hc : hasC s = true) (h : ¬ colOk s = true) : parseIp s = none := by rw [parseIp, if_pos hc, colP_none h]
theorem par_yes {s : ByteArray} (hc : hasC s = true) (h : colOk s = true) : parseIp s = some (colIp s) := by rw [parseIp, if_pos hc, colP_some h]
theorem hasC_pos {s : ByteArray} (hc : hasC s = true) : 0 < (s.size : Int) := by
  have h1 := hasI_pos (i := s.data.toList.length) ((hasI_all (Nat.le_refl _)).trans hc)
  have hll : s.data.toList.length = s.size := Array.length_toList
  omega
theorem hasC_ne {s : ByteArray} (hc : hasC s = true) : ¬ s = ⟨#[]⟩ := fun e => by rw [e] at hc; exact absurd hc (by decide)
theorem parN_bad {s : ByteArray} (hc : hasC s = true) (h : cutF s 0 < 0) (hx : rowOk s = false) : parseIp s = none :=
  par_no hc fun hk => by obtain ⟨h1, -⟩ := colOk_iff.1 hk; rw [(cut_none h).1, hx] at h1; cases h1
theorem parN_len {s : ByteArray} {A : List UInt8} (hc : hasC s = true) (h : cutF s 0 < 0) (hA : Rowd s A) (hl : ¬ (A.length : Int) = 16) : parseIp s = none :=
  par_no hc fun hk => by
    obtain ⟨h1, h2, h3, h4⟩ := colOk_iff.1 hk
    obtain ⟨e1, e2, e3⟩ := cut_none h
    rw [e1, e2, e3, hA.2, (rowOk_e rfl).2] at h4
    rcases h4 with ⟨h4, _⟩ | ⟨_, h4⟩
    · cases h4
    · simp only [List.length_nil] at h4; omega
theorem fill_ip {A B Z : List UInt8} {k : Nat} (hz : Z = A ++ List.replicate k 0) (hl : (Z.length : Int) + (B.length : Int) = 16) : sixIp.cpy 0 (Z ++ B) = (sixIp.cpy 0 A).cpy (16 - (B.length : Int)).toNat B := by
  have hzl : Z.length = A.length + k := by rw [hz]; simp
  have h16 : sixIp.bytes = List.replicate 16 0 := rfl
  refine Ip.ext_bytes rfl ?_
  rw [cpy_bytes (by rw [List.length_append]; omega), cpy_bytes (by omega), cpy_bytes (by omega), h16, show (16 - (B.length : Int)).toNat = 16 - B.length by omega, over_gap A B (by omega)]
  unfold over
  rw [List.take_zero, List.nil_append, Nat.zero_add, List.drop_of_length_le (by rw [List.length_append, List.length_replicate]; omega), List.append_nil, hz, show 16 - A.length - B.length = k by omega]
theorem parN_ok {s : ByteArray} {A Z : List UInt8} {k : Nat} (hc : hasC s = true) (h : cutF s 0 < 0) (hA : Rowd s A) (hl : (A.length : Int) = 16) (hz : Z = A ++ List.replicate k 0) (hZ : (Z.length : Int) = 16) : parseIp s = some (sixIp.cpy 0 (Z ++ [])) := by
  obtain ⟨e1, e2, e3⟩ := cut_none h
  have he := rowOk_e (s := ⟨#[]⟩) rfl
  rw [par_yes hc (colOk_iff.2 ⟨by rw [e1]; exact hA.1, by rw [e2]; exact he.1, hasC_ne hc, .inr ⟨e3, by rw [e1, e2, hA.2, he.2]; simp only [List.length_nil]; omega⟩⟩), colIp, e1, e2, hA.2, he.2]
  have := fill_ip (B := []) hz (by simp only [List.length_nil]; omega)
  rw [this]
theorem parS_bad1 {s : ByteArray} (hc : hasC s = true) (h : ¬ cutF s 0 < 0) (hx : rowOk (s.extract 0 (cutF s 0).toNat) = false) : parseIp s = none :=
  par_no hc fun hk => by obtain ⟨h1, -⟩ := colOk_iff.1 hk; rw [(cut_some h).1, hx] at h1; cases h1
theorem parS_bad2 {s : ByteArray} (hc : hasC s = true) (h : ¬ cutF s 0 < 0) (hx : rowOk (s.extract (cutF s 0 + 2).toNat s.size) = false) : parseIp s = none :=
  par_no hc fun hk => by obtain ⟨-, h1, -⟩ := colOk_iff.1 hk; rw [(cut_some h).2.1, hx] at h1; cases h1
theorem parS_len {s : ByteArray} {A B : List UInt8} (hc : hasC s = true) (h : ¬ cutF s 0 < 0) (hA : Rowd (s.extract 0 (cutF s 0).toNat) A) (hB : Rowd (s.extract (cutF s 0 + 2).toNat s.size) B) (hl : (14 : Int) < (A.length : Int) + (B.length : Int)) : parseIp s = none :=
  par_no hc fun hk => by
    obtain ⟨h1, h2, h3, h4⟩ := colOk_iff.1 hk
    obtain ⟨e1, e2, e3⟩ := cut_some h
    rw [e1, e2, e3, hA.2, hB.2] at h4
    rcases h4 with ⟨_, h4⟩ | ⟨h4, _⟩
    · omega
    · cases h4
theorem parS_ok {s : ByteArray} {A B Z : List UInt8} {k : Nat} (hc : hasC s = true) (h : ¬ cutF s 0 < 0) (hA : Rowd (s.extract 0 (cutF s 0).toNat) A) (hB : Rowd (s.extract (cutF s 0 + 2).toNat s.size) B) (hl : ¬ (14 : Int) < (A.length : Int) + (B.length : Int)) (hz : Z = A ++ List.replicate k 0) (hZ : (Z.length : Int) + (B.length : Int) = 16) : parseIp s = some (sixIp.cpy 0 (Z ++ B)) := by
  obtain ⟨e1, e2, e3⟩ := cut_some h
  rw [par_yes hc (colOk_iff.2 ⟨by rw [e1]; exact hA.1, by rw [e2]; exact hB.1, hasC_ne hc, .inl ⟨e3, by rw [e1, e2, hA.2, hB.2]; omega⟩⟩), colIp, e1, e2, hA.2, hB.2, fill_ip hz hZ]
theorem fill_round {A Z : List UInt8} {k : Nat} (h : Z = A ++ List.replicate k 0) : Z ++ ([0] : List UInt8) = A ++ List.replicate (k + 1) 0 := by
  rw [h, List.append_assoc, ← List.replicate_succ']

theorem ref02_number16g (s : ByteArray) (W : World) (hs : s.size ≤ 1000000) : Ret Tryz.prog 93 #[.string s, .int .i64 16, .int .i64 4] W fun v W' => (-1 ≤ grpP s ∧ grpP s ≤ 65535) ∧ v = .int .i64 (grpP s) ∧ Own W noX [] W' :=
  (ref02_number16 s W hs).mono fun v W' h => ⟨grpP_bd s, by rw [h.1, num16_grp], h.2⟩
theorem ref02_splitg (s : ByteArray) (c : UInt8) (W : World) (hs : s.size ≤ 1000000) : Ret Tryz.prog 92 #[.string s, .int .u8 (c.toNat : Int)] W fun v W' => ∃ q qc, (splitOn s c).length ≤ 1000001 ∧ v = .slice q (splitOn s c).length qc ∧ Own W noX [rowL strL 1 9 q qc (splitOn s c)] W' :=
  (ref02_split s c W hs).mono fun v W' h => by obtain ⟨q, qc, h1, h2⟩ := h; have := split_len s c; exact ⟨q, qc, by omega, h1, h2⟩
set_option maxRecDepth 20000 in
theorem ref02_ParseD (s : ByteArray) (W : World) (hs : s.size ≤ 1000000) (hc : hasC s = false) : Ret Tryz.prog 31 #[.string s] W fun v W' => v = retOk (parseIp s) ∧ Own W noX [] W' := by
 have hll : s.data.toList.length = s.size := Array.length_toList
 refine enter Tryz.func31 rfl (n := 160) rfl (by kernel_rfl) (E0 := [(0, .string s)]) (by kernel_rfl) ?_
 intro a hF; have hO := Own.start W noX
 refine wp_seq_k fun K1 hK1 => ?_
 refine wp_region_lit ?_
 refine L_new hF hO (by kernel_rfl) (by kernel_rfl) (vf := fun b => .pointer (some ⟨b, 0, none⟩)) (ob := .cells zFParseT 33) (by kernel_rfl) (by kernel_rfl) ?_
 clear hF hO; intro b1 W1 a hO hF
 refine Vp hF (.bool false) ?_; clear hF; intro a hF
 refine L_nil ?_
 refine hK1 _ _ ?_
 refine wp_seq_k fun K2 hK2 => ?_
 refine wp_region_lit ?_
 refine Vp hF (.bool false) ?_; clear hF; intro a hF
 refine L_nil ?_
 refine hK2 _ _ ?_
 refine wp_seq_k fun K3 hK3 => ?_
 refine wp_seq_k fun K4 hK4 => ?_
 refine wp_region_lit ?_
 refine Vp hF (.int .i64 0) ?_; clear hF; intro a hF
 refine L_nil ?_
 refine hK4 _ _ ?_
 refine wp_block ?_
 refine loopX (τ := Nat) (fun (i : Nat) a Wx => (i ≤ s.size) ∧ Fr 160 a [(0, .string s), (2, .pointer (some ⟨b1, 0, none⟩)), (3, .bool false), (4, .bool (hasI s i)), (5, .int .i64 ((i : Int)))] ∧ Own W noX [.blk b1 (.cells zFParseT 33 (0, 0))] Wx) (fun (i : Nat) => s.size - i) (0) ⟨Nat.zero_le _, ?_, ?_⟩ ?_
 · exact hF.restrict ⟨(by kernel_rfl), (by kernel_rfl), (by kernel_rfl), (congrArg some (by first | rfl | simp)), (congrArg some (by rfl)), trivial⟩
 · exact hO.sub (.cons_cons _ (List.nil_sublist _))
 clear hF hO; rintro i a Wl1 ⟨hI, hF, hO⟩ KhK_1 hK_1
 try dsimp only at hI
 refine wp_seq_k fun K5 hK5 => ?_
 refine wp_seq_k fun K6 hK6 => ?_
 refine wp_region_lit ?_
 refine Vp hF (.int .i64 ((i : Int))) ?_; clear hF; intro a hF
 refine Vp hF (.string s) ?_; clear hF; intro a hF
 refine Vp hF (.int .i64 ((s.size : Int))) ?_; clear hF; intro a hF
 refine Vp hF (.bool (decide ((i : Int) < (s.size : Int)))) ?_; clear hF; intro a hF
 refine L_nil ?_
 refine hK6 _ _ ?_
 by_cases q1 : (i : Int) < (s.size : Int)
 ·
  replace hF := hF.know (d := 22) (v' := .bool true) (by kernel_rfl) (congrArg Value.bool (decide_eq_true q1))
  refine cond_t hF (by kernel_rfl) (by kernel_rfl) ?_
  refine wp_skip ?_
  refine hK5 _ _ ?_
  refine wp_seq_k fun K7 hK7 => ?_
  refine wp_block ?_
  refine wp_region_lit ?_
  refine Vp hF (.bool (hasI s i)) ?_; clear hF; intro a hF
  refine Vp hF (.bool (hasI s i)) ?_; clear hF; intro a hF
  cases q2 : (hasI s i : Bool)
  ·
   replace hF := hF.know (d := 26) (v' := .bool false) (by kernel_rfl) (congrArg Value.bool q2)
   refine Vp hF (.string s) ?_; clear hF; intro a hF
   refine Vp hF (.int .i64 ((i : Int))) ?_; clear hF; intro a hF
   refine Vr hF (.int .u8 (bt s (i : Int))) (x_idxStr (s := s) (k := .i64) (i := (i : Int)) rfl (by kernel_rfl) (by kernel_rfl) (by kernel_rfl) (by omega) (by omega)) ?_; clear hF; intro a hF
   refine Vp hF (.bool ((bt s (i : Int)) == 58)) ?_; clear hF; intro a hF
   refine Vp hF (.bool ((bt s (i : Int)) == 58)) ?_; clear hF; intro a hF
   refine Vp hF (.bool ((bt s (i : Int)) == 58)) ?_; clear hF; intro a hF
   refine L_nil ?_
   refine block_normal ?_
   refine hK7 _ _ ?_
   refine wp_region_lit ?_
   refine Vp hF (.int .i64 ((i : Int))) ?_; clear hF; intro a hF
   refine Vr hF (.int .i64 ((i : Int) + 1)) (x_int (x := IntKind.i64.wrap ((i : Int) + 1)) (i64In (by omega) (by omega)) (by kernel_rfl)) ?_; clear hF; intro a hF
   refine Vp hF (.int .i64 ((i : Int) + 1)) ?_; clear hF; intro a hF
   refine L_nil ?_
   refine hK_1 (i + 1) _ _ (by first | omega | (dsimp only; omega)) ⟨by omega, ?_, ?_⟩
   · exact hF.restrict ⟨(by kernel_rfl), (by kernel_rfl), (by kernel_rfl), (congrArg some (by first | exact congrArg Value.bool (hasI_t (by omega) (by assumption)) | exact congrArg Value.bool (hasI_f (by omega) (by assumption)))), (congrArg some (by exact congrArg (Value.int _) (by omega))), trivial⟩
   · exact hO.sub (.cons_cons _ (List.nil_sublist _))
  ·
   replace hF := hF.know (d := 26) (v' := .bool true) (by kernel_rfl) (congrArg Value.bool q2)
   refine Lo hF ?_; clear hF; intro a hF
   refine Lo hF ?_; clear hF; intro a hF
   refine Lo hF ?_; clear hF; intro a hF
   refine Lo hF ?_; clear hF; intro a hF
   refine Vp hF (.bool true) ?_; clear hF; intro a hF
   refine Vp hF (.bool true) ?_; clear hF; intro a hF
   refine L_nil ?_
   refine block_normal ?_
   refine hK7 _ _ ?_
   refine wp_region_lit ?_
   refine Vp hF (.int .i64 ((i : Int))) ?_; clear hF; intro a hF
   refine Vr hF (.int .i64 ((i : Int) + 1)) (x_int (x := IntKind.i64.wrap ((i : Int) + 1)) (i64In (by omega) (by omega)) (by kernel_rfl)) ?_; clear hF; intro a hF
   refine Vp hF (.int .i64 ((i : Int) + 1)) ?_; clear hF; intro a hF
   refine L_nil ?_
   refine hK_1 (i + 1) _ _ (by first | omega | (dsimp only; omega)) ⟨by omega, ?_, ?_⟩
   · exact hF.restrict ⟨(by kernel_rfl), (by kernel_rfl), (by kernel_rfl), (congrArg some (by first | exact congrArg Value.bool (hasI_t (by omega) (by assumption)) | exact congrArg Value.bool (hasI_f (by omega) (by assumption)))), (congrArg some (by exact congrArg (Value.int _) (by omega))), trivial⟩
   · exact hO.sub (.cons_cons _ (List.nil_sublist _))
 ·
  replace hF := hF.know (d := 22) (v' := .bool false) (by kernel_rfl) (congrArg Value.bool (decide_eq_false q1))
  refine cond_f hF (by kernel_rfl) (by kernel_rfl) ?_
  refine wp_exit ?_
  refine then_exit ?_
  refine then_exit ?_
  refine inBlock_hit ?_
  refine hK3 _ _ ?_
  refine wp_seq_k fun K8 hK8 => ?_
  refine wp_seq_k fun K9 hK9 => ?_
  refine wp_region_lit ?_
  refine Vp hF (.bool (hasI s i)) ?_; clear hF; intro a hF
  refine Vp hF (.bool (!(hasI s i))) ?_; clear hF; intro a hF
  refine L_nil ?_
  refine hK9 _ _ ?_
  replace hF := hF.know (d := 33) (v' := .bool true) (by kernel_rfl) (congrArg Value.bool (notT (show (hasI s i) = false from ((hasI_all (by omega)).trans hc))))
  refine cond_t hF (by kernel_rfl) (by kernel_rfl) ?_
  refine wp_seq_k fun K10 hK10 => ?_
  refine wp_region_lit ?_
  refine Vp hF (.string s) ?_; clear hF; intro a hF
  refine Lc hF (ref02_four s Wl1 (by omega)) ?_
  clear hF; rintro _ W2 a ⟨rfl, hk⟩ hF
  replace hO := hO.call0 hk; clear hk
  refine Vp hF (ipV ((dotP s).getD noIp)) ?_; clear hF; intro a hF
  refine Vp hF (.bool ((dotP s).isSome)) ?_; clear hF; intro a hF
  obtain ⟨W3, hst, hO1⟩ := run_storeAt (P := Tryz.prog) (k := 17) (T := 33) (off := 0) (v := ipV ((dotP s).getD noIp)) (cs := zFParseT) (cs' := (ipL ((dotP s).getD noIp)).toArray) hO (by kernel_rfl) (by kernel_rfl) (by kernel_rfl) (Nat.le_of_ble_eq_true (by kernel_rfl)) (by kernel_rfl) (.head _)
  refine L_skip hF (by kernel_rfl) (by kernel_rfl) (x_store (p := .pointer (some ⟨b1, 0, none⟩)) (v := ipV ((dotP s).getD noIp)) rfl (by kernel_rfl) (by kernel_rfl) hst) (by kernel_rfl) ?_
  clear hst hF; intro a hF; replace hO := hO1; clear hO1
  refine Vp hF (.bool ((dotP s).isSome)) ?_; clear hF; intro a hF
  refine L_nil ?_
  refine hK10 _ _ ?_
  refine wp_ret ?_
  refine then_ret ?_
  refine ret2 hF (v := ipV ((dotP s).getD noIp)) (u := .bool ((dotP s).isSome)) rfl (resC (ad := ⟨b1, 0, none⟩) (by kernel_rfl) (run_loadA (k := 17) (by kernel_rfl) (by kernel_rfl) (hO.blk List.mem_cons_self) (by kernel_rfl) (by kernel_rfl))) (resT (by kernel_rfl)) (by refine ⟨?_, hO.nil⟩; (rw [ref_four (i := i) (by omega) ((hasI_all (by omega)).trans hc)]; rfl)) .ret (.inl rfl)

set_option maxRecDepth 20000 in
set_option maxHeartbeats 2000000 in
theorem ref02_ParseN (s : ByteArray) (W : World) (hs : s.size ≤ 1000000) (hc : hasC s = true) (hcut : cutF s 0 < 0) : Ret Tryz.prog 31 #[.string s] W fun v W' => v = retOk (parseIp s) ∧ Own W noX [] W' := by
 have hll : s.data.toList.length = s.size := Array.length_toList
 have hcp := hasC_pos hc
 refine enter Tryz.func31 rfl (n := 160) rfl (by kernel_rfl) (E0 := [(0, .string s)]) (by kernel_rfl) ?_
 intro a hF; have hO := Own.start W noX
 refine wp_seq_k fun K1 hK1 => ?_
 refine wp_region_lit ?_
 refine L_new hF hO (by kernel_rfl) (by kernel_rfl) (vf := fun b => .pointer (some ⟨b, 0, none⟩)) (ob := .cells zFParseT 33) (by kernel_rfl) (by kernel_rfl) ?_
 clear hF hO; intro b1 W1 a hO hF
 refine Vp hF (.bool false) ?_; clear hF; intro a hF
 refine L_nil ?_
 refine hK1 _ _ ?_
 refine wp_seq_k fun K2 hK2 => ?_
 refine wp_region_lit ?_
 refine Vp hF (.bool false) ?_; clear hF; intro a hF
 refine L_nil ?_
 refine hK2 _ _ ?_
 refine wp_seq_k fun K3 hK3 => ?_
 refine wp_seq_k fun K4 hK4 => ?_
 refine wp_region_lit ?_
 refine Vp hF (.int .i64 0) ?_; clear hF; intro a hF
 refine L_nil ?_
 refine hK4 _ _ ?_
 refine wp_block ?_
 refine loopX (τ := Nat) (fun (i : Nat) a Wx => (i ≤ s.size) ∧ Fr 160 a [(0, .string s), (2, .pointer (some ⟨b1, 0, none⟩)), (3, .bool false), (4, .bool (hasI s i)), (5, .int .i64 ((i : Int)))] ∧ Own W noX [.blk b1 (.cells zFParseT 33 (0, 0))] Wx) (fun (i : Nat) => s.size - i) (0) ⟨Nat.zero_le _, ?_, ?_⟩ ?_
 · exact hF.restrict ⟨(by kernel_rfl), (by kernel_rfl), (by kernel_rfl), (congrArg some (by first | rfl | simp)), (congrArg some (by rfl)), trivial⟩
 · exact hO.sub (.cons_cons _ (List.nil_sublist _))
 clear hF hO; rintro i a Wl1 ⟨hI, hF, hO⟩ KhK_1 hK_1
 try dsimp only at hI
 refine wp_seq_k fun K5 hK5 => ?_
 refine wp_seq_k fun K6 hK6 => ?_
 refine wp_region_lit ?_
 refine Vp hF (.int .i64 ((i : Int))) ?_; clear hF; intro a hF
 refine Vp hF (.string s) ?_; clear hF; intro a hF
 refine Vp hF (.int .i64 ((s.size : Int))) ?_; clear hF; intro a hF
 refine Vp hF (.bool (decide ((i : Int) < (s.size : Int)))) ?_; clear hF; intro a hF
 refine L_nil ?_
 refine hK6 _ _ ?_
 by_cases q1 : (i : Int) < (s.size : Int)
 ·
  replace hF := hF.know (d := 22) (v' := .bool true) (by kernel_rfl) (congrArg Value.bool (decide_eq_true q1))
  refine cond_t hF (by kernel_rfl) (by kernel_rfl) ?_
  refine wp_skip ?_
  refine hK5 _ _ ?_
  refine wp_seq_k fun K7 hK7 => ?_
  refine wp_block ?_
  refine wp_region_lit ?_
  refine Vp hF (.bool (hasI s i)) ?_; clear hF; intro a hF
  refine Vp hF (.bool (hasI s i)) ?_; clear hF; intro a hF
  cases q2 : (hasI s i : Bool)
  ·
   replace hF := hF.know (d := 26) (v' := .bool false) (by kernel_rfl) (congrArg Value.bool q2)
   refine Vp hF (.string s) ?_; clear hF; intro a hF
   refine Vp hF (.int .i64 ((i : Int))) ?_; clear hF; intro a hF
   refine Vr hF (.int .u8 (bt s (i : Int))) (x_idxStr (s := s) (k := .i64) (i := (i : Int)) rfl (by kernel_rfl) (by kernel_rfl) (by kernel_rfl) (by omega) (by omega)) ?_; clear hF; intro a hF
   refine Vp hF (.bool ((bt s (i : Int)) == 58)) ?_; clear hF; intro a hF
   refine Vp hF (.bool ((bt s (i : Int)) == 58)) ?_; clear hF; intro a hF
   refine Vp hF (.bool ((bt s (i : Int)) == 58)) ?_; clear hF; intro a hF
   refine L_nil ?_
   refine block_normal ?_
   refine hK7 _ _ ?_
   refine wp_region_lit ?_
   refine Vp hF (.int .i64 ((i : Int))) ?_; clear hF; intro a hF
   refine Vr hF (.int .i64 ((i : Int) + 1)) (x_int (x := IntKind.i64.wrap ((i : Int) + 1)) (i64In (by omega) (by omega)) (by kernel_rfl)) ?_; clear hF; intro a hF
   refine Vp hF (.int .i64 ((i : Int) + 1)) ?_; clear hF; intro a hF
   refine L_nil ?_
   refine hK_1 (i + 1) _ _ (by first | omega | (dsimp only; omega)) ⟨by omega, ?_, ?_⟩
   · exact hF.restrict ⟨(by kernel_rfl), (by kernel_rfl), (by kernel_rfl), (congrArg some (by first | exact congrArg Value.bool (hasI_t (by omega) (by assumption)) | exact congrArg Value.bool (hasI_f (by omega) (by assumption)))), (congrArg some (by exact congrArg (Value.int _) (by omega))), trivial⟩
   · exact hO.sub (.cons_cons _ (List.nil_sublist _))
  ·
   replace hF := hF.know (d := 26) (v' := .bool true) (by kernel_rfl) (congrArg Value.bool q2)
   refine Lo hF ?_; clear hF; intro a hF
   refine Lo hF ?_; clear hF; intro a hF
   refine Lo hF ?_; clear hF; intro a hF
   refine Lo hF ?_; clear hF; intro a hF
   refine Vp hF (.bool true) ?_; clear hF; intro a hF
   refine Vp hF (.bool true) ?_; clear hF; intro a hF
   refine L_nil ?_
   refine block_normal ?_
   refine hK7 _ _ ?_
   refine wp_region_lit ?_
   refine Vp hF (.int .i64 ((i : Int))) ?_; clear hF; intro a hF
   refine Vr hF (.int .i64 ((i : Int) + 1)) (x_int (x := IntKind.i64.wrap ((i : Int) + 1)) (i64In (by omega) (by omega)) (by kernel_rfl)) ?_; clear hF; intro a hF
   refine Vp hF (.int .i64 ((i : Int) + 1)) ?_; clear hF; intro a hF
   refine L_nil ?_
   refine hK_1 (i + 1) _ _ (by first | omega | (dsimp only; omega)) ⟨by omega, ?_, ?_⟩
   · exact hF.restrict ⟨(by kernel_rfl), (by kernel_rfl), (by kernel_rfl), (congrArg some (by first | exact congrArg Value.bool (hasI_t (by omega) (by assumption)) | exact congrArg Value.bool (hasI_f (by omega) (by assumption)))), (congrArg some (by exact congrArg (Value.int _) (by omega))), trivial⟩
   · exact hO.sub (.cons_cons _ (List.nil_sublist _))
 ·
  replace hF := hF.know (d := 22) (v' := .bool false) (by kernel_rfl) (congrArg Value.bool (decide_eq_false q1))
  refine cond_f hF (by kernel_rfl) (by kernel_rfl) ?_
  refine wp_exit ?_
  refine then_exit ?_
  refine then_exit ?_
  refine inBlock_hit ?_
  refine hK3 _ _ ?_
  refine wp_seq_k fun K8 hK8 => ?_
  refine wp_seq_k fun K9 hK9 => ?_
  refine wp_region_lit ?_
  refine Vp hF (.bool (hasI s i)) ?_; clear hF; intro a hF
  refine Vp hF (.bool (!(hasI s i))) ?_; clear hF; intro a hF
  refine L_nil ?_
  refine hK9 _ _ ?_
  replace hF := hF.know (d := 33) (v' := .bool false) (by kernel_rfl) (congrArg Value.bool (notF (show (hasI s i) = true from ((hasI_all (by omega)).trans hc))))
  refine cond_f hF (by kernel_rfl) (by kernel_rfl) ?_
  refine wp_skip ?_
  refine hK8 _ _ ?_
  refine wp_seq_k fun K10 hK10 => ?_
  refine wp_region_lit ?_
  refine Vp hF (.int .i64 (-1)) ?_; clear hF; intro a hF
  refine L_nil ?_
  refine hK10 _ _ ?_
  refine wp_seq_k fun K11 hK11 => ?_
  refine wp_seq_k fun K12 hK12 => ?_
  refine wp_region_lit ?_
  refine Vp hF (.string s) ?_; clear hF; intro a hF
  refine Vp hF (.int .i64 ((s.size : Int))) ?_; clear hF; intro a hF
  refine Vr hF (.int .i64 ((s.size : Int) - 2)) (x_int (x := IntKind.i64.wrap ((s.size : Int) - 2)) (i64In (by omega) (by omega)) (by kernel_rfl)) ?_; clear hF; intro a hF
  refine Vp hF (.int .i64 ((s.size : Int) - 2)) ?_; clear hF; intro a hF
  refine L_nil ?_
  refine hK12 _ _ ?_
  refine wp_block ?_
  refine loopX (τ := Nat) (fun (j : Nat) a Wx => (j < s.size) ∧ Fr 160 a [(0, .string s), (2, .pointer (some ⟨b1, 0, none⟩)), (3, .bool false), (6, .int .i64 (cutF s j)), (7, .int .i64 ((j : Int) - 1))] ∧ Own W noX [.blk b1 (.cells zFParseT 33 (0, 0))] Wx) (fun (j : Nat) => j) (s.size - 1) ⟨by omega, ?_, ?_⟩ ?_
  · exact hF.restrict ⟨(by kernel_rfl), (by kernel_rfl), (by kernel_rfl), (congrArg some (by exact congrArg (Value.int _) (cutF_last s _ (by omega)).symm)), (congrArg some (by exact congrArg (Value.int _) (by omega))), trivial⟩
  · exact hO.sub (.cons_cons _ (List.nil_sublist _))
  clear hF hO; rintro j a Wl2 ⟨hI, hF, hO⟩ KhK_2 hK_2
  try dsimp only at hI
  refine wp_seq_k fun K13 hK13 => ?_
  refine wp_seq_k fun K14 hK14 => ?_
  refine wp_region_lit ?_
  refine Vp hF (.int .i64 ((j : Int) - 1)) ?_; clear hF; intro a hF
  refine Vp hF (.bool (decide ((j : Int) - 1 ≥ 0))) ?_; clear hF; intro a hF
  refine L_nil ?_
  refine hK14 _ _ ?_
  by_cases q3 : (j : Int) - 1 ≥ 0
  ·
   replace hF := hF.know (d := 42) (v' := .bool true) (by kernel_rfl) (congrArg Value.bool (decide_eq_true q3))
   refine cond_t hF (by kernel_rfl) (by kernel_rfl) ?_
   refine wp_skip ?_
   refine hK13 _ _ ?_
   refine wp_seq_k fun K15 hK15 => ?_
   refine wp_block ?_
   refine wp_seq_k fun K16 hK16 => ?_
   refine wp_region_lit ?_
   refine Vp hF (.string s) ?_; clear hF; intro a hF
   refine Vp hF (.int .i64 ((j : Int) - 1)) ?_; clear hF; intro a hF
   refine Vr hF (.int .u8 (bt s ((j : Int) - 1))) (x_idxStr (s := s) (k := .i64) (i := (j : Int) - 1) rfl (by kernel_rfl) (by kernel_rfl) (by kernel_rfl) (by omega) (by omega)) ?_; clear hF; intro a hF
   refine Vp hF (.bool ((bt s ((j : Int) - 1)) == 58)) ?_; clear hF; intro a hF
   refine Vp hF (.bool ((bt s ((j : Int) - 1)) == 58)) ?_; clear hF; intro a hF
   by_cases q4 : bt s ((j : Int) - 1) = 58
   ·
    replace hF := hF.know (d := 49) (v' := .bool true) (by kernel_rfl) (congrArg Value.bool (eqT q4))
    refine Vp hF (.string s) ?_; clear hF; intro a hF
    refine Vp hF (.int .i64 ((j : Int) - 1)) ?_; clear hF; intro a hF
    refine Vr hF (.int .i64 ((j : Int) - 1 + 1)) (x_int (x := IntKind.i64.wrap ((j : Int) - 1 + 1)) (i64In (by omega) (by omega)) (by kernel_rfl)) ?_; clear hF; intro a hF
    refine Vr hF (.int .u8 (bt s ((j : Int) - 1 + 1))) (x_idxStr (s := s) (k := .i64) (i := (j : Int) - 1 + 1) rfl (by kernel_rfl) (by kernel_rfl) (by kernel_rfl) (by omega) (by omega)) ?_; clear hF; intro a hF
    refine Vp hF (.bool ((bt s ((j : Int) - 1 + 1)) == 58)) ?_; clear hF; intro a hF
    refine Vp hF (.bool ((bt s ((j : Int) - 1 + 1)) == 58)) ?_; clear hF; intro a hF
    refine L_nil ?_
    refine hK16 _ _ ?_
    by_cases q5 : bt s ((j : Int) - 1 + 1) = 58
    ·
     replace hF := hF.know (d := 55) (v' := .bool true) (by kernel_rfl) (congrArg Value.bool (eqT q5))
     refine cond_t hF (by kernel_rfl) (by kernel_rfl) ?_
     refine wp_region_lit ?_
     refine Vp hF (.int .i64 ((j : Int) - 1)) ?_; clear hF; intro a hF
     refine Vp hF (.int .i64 ((j : Int) - 1)) ?_; clear hF; intro a hF
     refine L_nil ?_
     refine block_normal ?_
     refine hK15 _ _ ?_
     refine wp_region_lit ?_
     refine Vp hF (.int .i64 ((j : Int) - 1)) ?_; clear hF; intro a hF
     refine Vr hF (.int .i64 (((j : Int) - 1) - 1)) (x_int (x := IntKind.i64.wrap (((j : Int) - 1) - 1)) (i64In (by omega) (by omega)) (by kernel_rfl)) ?_; clear hF; intro a hF
     refine Vp hF (.int .i64 (((j : Int) - 1) - 1)) ?_; clear hF; intro a hF
     refine L_nil ?_
     refine hK_2 (j - 1) _ _ (by first | omega | (dsimp only; omega)) ⟨by omega, ?_, ?_⟩
     · exact hF.restrict ⟨(by kernel_rfl), (by kernel_rfl), (by kernel_rfl), (congrArg some (by first | exact congrArg (Value.int _) (cut_h (by omega) (by omega) (u8_eq (by assumption)) (u8_eq (by assumption))) | exact congrArg (Value.int _) (cut_r (by omega) (by omega) (fun e => u8_ne (by assumption) e.1)) | exact congrArg (Value.int _) (cut_r (by omega) (by omega) (fun e => u8_ne (by assumption) e.2)))), (congrArg some (by exact congrArg (Value.int _) (by omega))), trivial⟩
     · exact hO.sub (.cons_cons _ (List.nil_sublist _))
    ·
     replace hF := hF.know (d := 55) (v' := .bool false) (by kernel_rfl) (congrArg Value.bool (eqF q5))
     refine cond_f hF (by kernel_rfl) (by kernel_rfl) ?_
     refine wp_skip ?_
     refine block_normal ?_
     refine hK15 _ _ ?_
     refine wp_region_lit ?_
     refine Vp hF (.int .i64 ((j : Int) - 1)) ?_; clear hF; intro a hF
     refine Vr hF (.int .i64 (((j : Int) - 1) - 1)) (x_int (x := IntKind.i64.wrap (((j : Int) - 1) - 1)) (i64In (by omega) (by omega)) (by kernel_rfl)) ?_; clear hF; intro a hF
     refine Vp hF (.int .i64 (((j : Int) - 1) - 1)) ?_; clear hF; intro a hF
     refine L_nil ?_
     refine hK_2 (j - 1) _ _ (by first | omega | (dsimp only; omega)) ⟨by omega, ?_, ?_⟩
     · exact hF.restrict ⟨(by kernel_rfl), (by kernel_rfl), (by kernel_rfl), (congrArg some (by first | exact congrArg (Value.int _) (cut_h (by omega) (by omega) (u8_eq (by assumption)) (u8_eq (by assumption))) | exact congrArg (Value.int _) (cut_r (by omega) (by omega) (fun e => u8_ne (by assumption) e.1)) | exact congrArg (Value.int _) (cut_r (by omega) (by omega) (fun e => u8_ne (by assumption) e.2)))), (congrArg some (by exact congrArg (Value.int _) (by omega))), trivial⟩
     · exact hO.sub (.cons_cons _ (List.nil_sublist _))
   ·
    replace hF := hF.know (d := 49) (v' := .bool false) (by kernel_rfl) (congrArg Value.bool (eqF q4))
    refine Lo hF ?_; clear hF; intro a hF
    refine Lo hF ?_; clear hF; intro a hF
    refine Lo hF ?_; clear hF; intro a hF
    refine Lo hF ?_; clear hF; intro a hF
    refine Lo hF ?_; clear hF; intro a hF
    refine Vp hF (.bool false) ?_; clear hF; intro a hF
    refine L_nil ?_
    refine hK16 _ _ ?_
    refine cond_f hF (by kernel_rfl) (by kernel_rfl) ?_
    refine wp_skip ?_
    refine block_normal ?_
    refine hK15 _ _ ?_
    refine wp_region_lit ?_
    refine Vp hF (.int .i64 ((j : Int) - 1)) ?_; clear hF; intro a hF
    refine Vr hF (.int .i64 (((j : Int) - 1) - 1)) (x_int (x := IntKind.i64.wrap (((j : Int) - 1) - 1)) (i64In (by omega) (by omega)) (by kernel_rfl)) ?_; clear hF; intro a hF
    refine Vp hF (.int .i64 (((j : Int) - 1) - 1)) ?_; clear hF; intro a hF
    refine L_nil ?_
    refine hK_2 (j - 1) _ _ (by first | omega | (dsimp only; omega)) ⟨by omega, ?_, ?_⟩
    · exact hF.restrict ⟨(by kernel_rfl), (by kernel_rfl), (by kernel_rfl), (congrArg some (by first | exact congrArg (Value.int _) (cut_h (by omega) (by omega) (u8_eq (by assumption)) (u8_eq (by assumption))) | exact congrArg (Value.int _) (cut_r (by omega) (by omega) (fun e => u8_ne (by assumption) e.1)) | exact congrArg (Value.int _) (cut_r (by omega) (by omega) (fun e => u8_ne (by assumption) e.2)))), (congrArg some (by exact congrArg (Value.int _) (by omega))), trivial⟩
    · exact hO.sub (.cons_cons _ (List.nil_sublist _))
  ·
   replace hF := hF.know (d := 42) (v' := .bool false) (by kernel_rfl) (congrArg Value.bool (decide_eq_false q3))
   refine cond_f hF (by kernel_rfl) (by kernel_rfl) ?_
   refine wp_exit ?_
   refine then_exit ?_
   refine then_exit ?_
   refine inBlock_hit ?_
   refine hK11 _ _ ?_
   refine wp_seq_k fun K17 hK17 => ?_
   refine wp_region_lit ?_
   refine Vp hF (.string s) ?_; clear hF; intro a hF
   refine Vp hF (.string s) ?_; clear hF; intro a hF
   refine Vp hF (.string (⟨#[]⟩ : ByteArray)) ?_; clear hF; intro a hF
   refine L_nil ?_
   refine hK17 _ _ ?_
   refine wp_seq_k fun K18 hK18 => ?_
   refine wp_seq_k fun K19 hK19 => ?_
   refine wp_region_lit ?_
   refine Vp hF (.int .i64 (cutF s j)) ?_; clear hF; intro a hF
   refine Vp hF (.bool (decide (cutF s j ≥ 0))) ?_; clear hF; intro a hF
   refine L_nil ?_
   refine hK19 _ _ ?_
   replace hF := hF.know (d := 59) (v' := .bool false) (by kernel_rfl) (congrArg Value.bool (decide_eq_false (show ¬ (cutF s j ≥ 0) from (by obtain rfl : j = 0 := (by omega); omega))))
   refine cond_f hF (by kernel_rfl) (by kernel_rfl) ?_
   refine wp_skip ?_
   refine hK18 _ _ ?_
   refine wp_seq_k fun K20 hK20 => ?_
   refine wp_region_lit ?_
   refine L_new hF hO (by kernel_rfl) (by kernel_rfl) (vf := fun b => .slice (some ⟨b, 0, none⟩) 0 0) (ob := .cells #[] 5) (by kernel_rfl) (by kernel_rfl) ?_
   clear hF hO; intro b2 W2 a hO hF
   refine L_new hF hO (by kernel_rfl) (by kernel_rfl) (vf := fun b => .slice (some ⟨b, 0, none⟩) 0 0) (ob := .cells #[] 5) (by kernel_rfl) (by kernel_rfl) ?_
   clear hF hO; intro b3 W3 a hO hF
   refine Vp hF (.slice (some ⟨b2, 0, none⟩) 0 0) ?_; clear hF; intro a hF
   refine Vp hF (.slice (some ⟨b3, 0, none⟩) 0 0) ?_; clear hF; intro a hF
   refine L_nil ?_
   refine hK20 _ _ ?_
   refine wp_seq_k fun K21 hK21 => ?_
   refine wp_seq_k fun K22 hK22 => ?_
   refine wp_region_lit ?_
   refine Vp hF (.int .i64 (cutF s j)) ?_; clear hF; intro a hF
   refine Vp hF (.bool (decide (cutF s j < 0))) ?_; clear hF; intro a hF
   refine Vp hF (.bool (decide (cutF s j < 0))) ?_; clear hF; intro a hF
   replace hF := hF.know (d := 71) (v' := .bool true) (by kernel_rfl) (congrArg Value.bool (decide_eq_true (show cutF s j < 0 from (by obtain rfl : j = 0 := (by omega); omega))))
   refine Lo hF ?_; clear hF; intro a hF
   refine Lo hF ?_; clear hF; intro a hF
   refine Lo hF ?_; clear hF; intro a hF
   refine Vp hF (.bool true) ?_; clear hF; intro a hF
   refine L_nil ?_
   refine hK22 _ _ ?_
   refine cond_t hF (by kernel_rfl) (by kernel_rfl) ?_
   refine wp_seq_k fun K23 hK23 => ?_
   refine wp_region_lit ?_
   refine Vp hF (.string s) ?_; clear hF; intro a hF
   refine Lc hF (ref02_splitg s 58 W3 (by first | omega | exact Nat.le_trans (ext_le _ _ _) hs)) ?_
   clear hF; rintro _ W4 a ⟨q6, qc1, hsl_q6, rfl, hk⟩ hF
   replace hO := hO.call1 hk; clear hk
   refine Vp hF (.int .i64 (((splitOn s 58).length : Int))) ?_; clear hF; intro a hF
   refine Vp hF (.int .i64 0) ?_; clear hF; intro a hF
   refine L_nil ?_
   refine hK23 _ _ ?_
   refine wp_block ?_
   replace hO := hO.asRow (k := 1) (cap := 0) u8L ([] : List UInt8) (.tail (.tail (.head _))) (by decide) (by kernel_rfl) (by decide) (by kernel_rfl)
   replace hO := hO.front (.tail (.tail (.head _)))
   refine loopX (τ := Nat × Option Addr × Nat × List UInt8) (fun (xτ : Nat × Option Addr × Nat × List UInt8) a Wx => (fun (ia : Nat) (qa : Option Addr) (qca : Nat) (acca : List UInt8) => (ia ≤ (splitOn s 58).length ∧ (∀ y, y < ia → 0 ≤ grpP (nth (splitOn s 58) y)) ∧ acca = ((splitOn s 58).take ia).flatMap grpB ∧ acca.length ≤ 2 * ia) ∧ Fr 160 a [(2, .pointer (some ⟨b1, 0, none⟩)), (6, .int .i64 (cutF s j)), (9, .string (⟨#[]⟩ : ByteArray)), (10, .slice qa acca.length qca), (11, .slice (some ⟨b3, 0, none⟩) 0 0), (77, .slice q6 ((splitOn s 58).length) qc1), (78, .int .i64 (((splitOn s 58).length : Int))), (79, .int .i64 ((ia : Int)))] ∧ Own W noX [rowL u8L 1 5 qa qca acca, rowL strL 1 9 q6 qc1 (splitOn s 58), .blk b3 (.cells #[] 5 (0, 0)), .blk b1 (.cells zFParseT 33 (0, 0))] Wx) (xτ.1) (xτ.2.1) (xτ.2.2.1) (xτ.2.2.2)) (fun (xτ : Nat × Option Addr × Nat × List UInt8) => (fun (ia : Nat) (qa : Option Addr) (qca : Nat) (acca : List UInt8) => (splitOn s 58).length - ia) (xτ.1) (xτ.2.1) (xτ.2.2.1) (xτ.2.2.2)) ((0, some ⟨b2, 0, none⟩, 0, ([] : List UInt8))) ⟨⟨Nat.zero_le _, fun j h => by omega, rfl, Nat.le_refl _⟩, ?_, ?_⟩ ?_
   · exact hF.restrict ⟨(by kernel_rfl), (by kernel_rfl), (by kernel_rfl), (congrArg some (by first | rfl | exact congrArg (Value.int _) (by omega) | simp)), (by kernel_rfl), (by kernel_rfl), (by kernel_rfl), (congrArg some (by first | rfl | exact congrArg (Value.int _) (by omega) | simp)), trivial⟩
   · exact hO.sub (.cons_cons _ (.cons_cons _ (.cons_cons _ (.cons_cons _ (List.nil_sublist _)))))
   clear hF hO; rintro ⟨ia, qa, qca, acca⟩ a Wl3 ⟨hA, hF, hO⟩ KhK_3 hK_3
   try dsimp only at hA
   refine wp_seq_k fun K24 hK24 => ?_
   refine wp_region_lit ?_
   refine Vp hF (.bool (decide ((ia : Int) < ((splitOn s 58).length : Int)))) ?_; clear hF; intro a hF
   refine L_nil ?_
   refine hK24 _ _ ?_
   refine wp_seq_k fun K25 hK25 => ?_
   by_cases q7 : (ia : Int) < ((splitOn s 58).length : Int)
   ·
    replace hF := hF.know (d := 80) (v' := .bool true) (by kernel_rfl) (congrArg Value.bool (decide_eq_true q7))
    refine cond_t hF (by kernel_rfl) (by kernel_rfl) ?_
    refine wp_skip ?_
    refine hK25 _ _ ?_
    refine wp_seq_k fun K26 hK26 => ?_
    refine wp_block ?_
    refine wp_seq_k fun K27 hK27 => ?_
    refine wp_region_lit ?_
    refine Vr hF (.pointer (some ⟨(ab q6), ao q6 + ia * 1, none⟩)) (x_idxAddrS (p := q6) (len := (splitOn s 58).length) (cap := qc1) (elem := 9) (kd := .i64) (k := 1) (i := (ia : Int)) rfl (by kernel_rfl) (by kernel_rfl) (by kernel_rfl) (by kernel_rfl) (by omega) (by omega) (SlAt.ne (k := 1) (hO.row (List.mem_cons_of_mem _ List.mem_cons_self)) (fun _ => rfl) (by decide) (by (first | omega | (simp only [List.length_set, List.length_take, List.length_drop, List.length_append, List.length_cons, List.length_nil]; done) | (simp only [List.length_set, List.length_take, List.length_drop, List.length_append, List.length_cons, List.length_nil]; omega) | (simp only [List.length_set, List.length_take, List.length_drop, List.length_append, List.length_cons, List.length_nil] at *; omega)) : ia < (splitOn s 58).length))) ?_; clear hF; intro a hF
    refine Vr hF (.string (nth (splitOn s 58) ia)) (x_load (p := .pointer (some ⟨(ab q6), ao q6 + ia * 1, none⟩)) rfl (by kernel_rfl) (run_loadEl1 (by kernel_rfl) (hO.row (List.mem_cons_of_mem _ List.mem_cons_self)) (fun _ => rfl) (by (first | omega | (simp only [List.length_set, List.length_take, List.length_drop, List.length_append, List.length_cons, List.length_nil]; done) | (simp only [List.length_set, List.length_take, List.length_drop, List.length_append, List.length_cons, List.length_nil]; omega) | (simp only [List.length_set, List.length_take, List.length_drop, List.length_append, List.length_cons, List.length_nil] at *; omega))) rfl)) ?_; clear hF; intro a hF
    refine Vp hF (.string (nth (splitOn s 58) ia)) ?_; clear hF; intro a hF
    refine L_nil ?_
    refine hK27 _ _ ?_
    refine wp_seq_k fun K28 hK28 => ?_
    refine wp_region_lit ?_
    refine Vp hF (.string (nth (splitOn s 58) ia)) ?_; clear hF; intro a hF
    refine Lc hF (ref02_number16g (nth (splitOn s 58) ia) Wl3 (by exact Nat.le_trans (split_size _ 58 _ (nth_mem (by omega))) (by first | exact hs | exact Nat.le_trans (ext_le _ _ _) hs))) ?_
    clear hF; rintro _ W5 a ⟨hgb, rfl, hk⟩ hF
    replace hO := hO.call0 hk; clear hk
    refine Vp hF (.int .i64 ((grpP (nth (splitOn s 58) ia)))) ?_; clear hF; intro a hF
    refine L_nil ?_
    refine hK28 _ _ ?_
    refine wp_seq_k fun K29 hK29 => ?_
    refine wp_seq_k fun K30 hK30 => ?_
    refine wp_region_lit ?_
    refine Vp hF (.int .i64 ((grpP (nth (splitOn s 58) ia)))) ?_; clear hF; intro a hF
    refine Vp hF (.bool (decide ((grpP (nth (splitOn s 58) ia)) < 0))) ?_; clear hF; intro a hF
    refine L_nil ?_
    refine hK30 _ _ ?_
    by_cases q8 : (grpP (nth (splitOn s 58) ia)) < 0
    ·
     replace hF := hF.know (d := 86) (v' := .bool true) (by kernel_rfl) (congrArg Value.bool (decide_eq_true q8))
     refine cond_t hF (by kernel_rfl) (by kernel_rfl) ?_
     refine wp_seq_k fun K31 hK31 => ?_
     refine wp_region_lit ?_
     refine Vp hF (.agg zFParseT) ?_; clear hF; intro a hF
     obtain ⟨W6, hst, hO1⟩ := run_storeAt (P := Tryz.prog) (k := 17) (T := 33) (off := 0) (v := .agg zFParseT) (cs := zFParseT) (cs' := zFParseT) hO (by kernel_rfl) (by kernel_rfl) (by kernel_rfl) (Nat.le_of_ble_eq_true (by kernel_rfl)) (by kernel_rfl) (.tail (.tail (.tail (.head _))))
     refine L_skip hF (by kernel_rfl) (by kernel_rfl) (x_store (p := .pointer (some ⟨b1, 0, none⟩)) (v := .agg zFParseT) rfl (by kernel_rfl) (by kernel_rfl) hst) (by kernel_rfl) ?_
     clear hst hF; intro a hF; replace hO := hO1; clear hO1
     refine Vp hF (.bool false) ?_; clear hF; intro a hF
     refine L_nil ?_
     refine hK31 _ _ ?_
     refine wp_ret ?_
     refine then_ret ?_
     refine block_ret ?_
     refine then_ret ?_
     refine then_ret ?_
     refine block_ret ?_
     refine then_ret ?_
     refine ret2 hF (v := ipV noIp) (u := .bool false) rfl (resC (ad := ⟨b1, 0, none⟩) (by kernel_rfl) (run_loadA (k := 17) (by kernel_rfl) (by kernel_rfl) (hO.blk (List.mem_cons_of_mem _ (List.mem_cons_of_mem _ (List.mem_cons_of_mem _ List.mem_cons_self)))) (by kernel_rfl) (by kernel_rfl))) (resT (by kernel_rfl)) (by refine ⟨?_, hO.nil⟩; (first | (rw [parN_bad hc hcut (piece_bad (i := ia) (by omega) (by omega) (by assumption))]; rfl) | (rw [parN_len hc hcut (piece_ok (i := ia) (by omega) (by omega) hA) (by omega)]; rfl) | (rw [parN_ok hc hcut (piece_ok (i := ia) (by omega) (by omega) hA) (by omega) hZ.1 (by have hq := congrArg List.length hZ.1; have hz2 := hZ.2; simp only [List.length_append, List.length_replicate, List.length_nil] at hq hz2 ⊢; omega)]; rfl))) .ret (.inl rfl)
    ·
     replace hF := hF.know (d := 86) (v' := .bool false) (by kernel_rfl) (congrArg Value.bool (decide_eq_false q8))
     refine cond_f hF (by kernel_rfl) (by kernel_rfl) ?_
     refine wp_skip ?_
     refine hK29 _ _ ?_
     refine wp_region_lit ?_
     refine Vp hF (.slice qa acca.length qca) ?_; clear hF; intro a hF
     refine Vp hF (.int .i64 ((grpP (nth (splitOn s 58) ia)))) ?_; clear hF; intro a hF
     refine Vr hF (.int .i64 ((grpP (nth (splitOn s 58) ia)) / 256)) (x_int (x := IntKind.i64.wrap (Int.tdiv (grpP (nth (splitOn s 58) ia)) 256)) (i64Quo (by decide) (by omega) (by omega)) (by kernel_rfl)) ?_; clear hF; intro a hF
     refine Vr hF (.int .u8 (((ub ((grpP (nth (splitOn s 58) ia)) / 256)).toNat : Int))) (x_int (x := IntKind.u8.wrap ((grpP (nth (splitOn s 58) ia)) / 256)) (ub_wrap _) (by kernel_rfl)) ?_; clear hF; intro a hF
     refine Vp hF (.int .i64 ((grpP (nth (splitOn s 58) ia)))) ?_; clear hF; intro a hF
     refine Vr hF (.int .i64 ((grpP (nth (splitOn s 58) ia)) % 256)) (x_int (x := Int.tmod (grpP (nth (splitOn s 58) ia)) 256) (rem_pos (by omega)) (by kernel_rfl)) ?_; clear hF; intro a hF
     refine Vr hF (.int .u8 (((ub ((grpP (nth (splitOn s 58) ia)) % 256)).toNat : Int))) (x_int (x := IntKind.u8.wrap ((grpP (nth (splitOn s 58) ia)) % 256)) (ub_wrap _) (by kernel_rfl)) ?_; clear hF; intro a hF
     refine L_new hF hO (by kernel_rfl) (by kernel_rfl) (vf := fun b => .slice (some ⟨b, 0, none⟩) 2 2) (ob := .cells #[.int .u8 (((ub ((grpP (nth (splitOn s 58) ia)) / 256)).toNat : Int)), .int .u8 (((ub ((grpP (nth (splitOn s 58) ia)) % 256)).toNat : Int))] 5) (by kernel_rfl) (by kernel_rfl) ?_
     clear hF hO; intro b4 W7 a hO hF
     obtain ⟨p1, cap1, W8, hap, hO1, -⟩ := run_append_row (P := Tryz.prog) (ty := 46) (t := 46) (z := .int .u8 0) (k := 1) (bytes := 1) (q := some ⟨b4, 0, none⟩) (ys := ([(ub ((grpP (nth (splitOn s 58) ia)) / 256)), (ub ((grpP (nth (splitOn s 58) ia)) % 256))] : List UInt8)) (cq := 2) hO (.tail (.head _)) (by kernel_rfl) (by kernel_rfl) (by kernel_rfl) (by decide) (fun _ => rfl) (fun _ => rfl) (SlAt.blk hO List.mem_cons_self (by kernel_rfl)) (by (try simp only [List.length_append, List.length_take, List.length_drop, List.length_cons, List.length_nil, maxLen]); omega) (by (try simp only [List.length_append, List.length_take, List.length_drop, List.length_cons, List.length_nil, maxLen]); omega)
     refine L_valW hF (by kernel_rfl) (by kernel_rfl) (x_app hap rfl (by kernel_rfl) (by kernel_rfl) rfl) (by kernel_rfl) ?_
     clear hap hF; intro a hF; replace hO := hO1; clear hO1
     refine Vp hF (.slice p1 ((acca ++ ([(ub ((grpP (nth (splitOn s 58) ia)) / 256)), (ub ((grpP (nth (splitOn s 58) ia)) % 256))] : List UInt8)).length) cap1) ?_; clear hF; intro a hF
     refine L_nil ?_
     refine block_normal ?_
     refine hK26 _ _ ?_
     refine wp_region_lit ?_
     refine Vr hF (.int .i64 ((ia : Int) + 1)) (x_int (x := IntKind.i64.wrap ((ia : Int) + 1)) (i64In (by omega) (by omega)) (by kernel_rfl)) ?_; clear hF; intro a hF
     refine Vp hF (.int .i64 ((ia : Int) + 1)) ?_; clear hF; intro a hF
     refine L_nil ?_
     refine hK_3 ((ia + 1, p1, cap1, acca ++ ([(ub ((grpP (nth (splitOn s 58) ia)) / 256)), (ub ((grpP (nth (splitOn s 58) ia)) % 256))] : List UInt8))) _ _ (by first | omega | (dsimp only; omega)) ⟨roundR hA q7 q8, ?_, ?_⟩
     · exact hF.restrict ⟨(by kernel_rfl), (by kernel_rfl), (by kernel_rfl), (congrArg some (by first | rfl | exact congrArg (Value.int _) (by omega))), (by kernel_rfl), (by kernel_rfl), (by kernel_rfl), (congrArg some (by first | rfl | exact congrArg (Value.int _) (by omega))), trivial⟩
     · exact hO.sub (.cons_cons _ (.cons _ (.cons_cons _ (.cons_cons _ (.cons_cons _ (List.nil_sublist _))))))
   ·
    replace hF := hF.know (d := 80) (v' := .bool false) (by kernel_rfl) (congrArg Value.bool (decide_eq_false q7))
    refine cond_f hF (by kernel_rfl) (by kernel_rfl) ?_
    refine wp_exit ?_
    refine then_exit ?_
    refine then_exit ?_
    refine inBlock_hit ?_
    refine hK21 _ _ ?_
    refine wp_seq_k fun K32 hK32 => ?_
    refine wp_seq_k fun K33 hK33 => ?_
    refine wp_region_lit ?_
    refine Vp hF (.string (⟨#[]⟩ : ByteArray)) ?_; clear hF; intro a hF
    refine Vp hF (.int .i64 0) ?_; clear hF; intro a hF
    refine Vp hF (.bool false) ?_; clear hF; intro a hF
    refine L_nil ?_
    refine hK33 _ _ ?_
    refine cond_f hF (by kernel_rfl) (by kernel_rfl) ?_
    refine wp_skip ?_
    refine hK32 _ _ ?_
    refine wp_seq_k fun K34 hK34 => ?_
    refine wp_seq_k fun K35 hK35 => ?_
    refine wp_region_lit ?_
    refine Vp hF (.int .i64 (cutF s j)) ?_; clear hF; intro a hF
    refine Vp hF (.bool (decide (cutF s j < 0))) ?_; clear hF; intro a hF
    refine Vp hF (.bool (decide (cutF s j < 0))) ?_; clear hF; intro a hF
    replace hF := hF.know (d := 125) (v' := .bool true) (by kernel_rfl) (congrArg Value.bool (decide_eq_true (show cutF s j < 0 from (by obtain rfl : j = 0 := (by omega); omega))))
    refine Vp hF (.slice qa acca.length qca) ?_; clear hF; intro a hF
    refine Vp hF (.int .i64 ((acca.length : Int))) ?_; clear hF; intro a hF
    refine Vp hF (.bool (!((acca.length : Int) == 16))) ?_; clear hF; intro a hF
    refine Vp hF (.bool (!((acca.length : Int) == 16))) ?_; clear hF; intro a hF
    refine Vp hF (.bool (!((acca.length : Int) == 16))) ?_; clear hF; intro a hF
    by_cases q9 : (acca.length : Int) = 16
    ·
     replace hF := hF.know (d := 130) (v' := .bool false) (by kernel_rfl) (congrArg Value.bool (neF (not_not_intro q9)))
     refine Vp hF (.int .i64 (cutF s j)) ?_; clear hF; intro a hF
     refine Vp hF (.bool (decide (cutF s j ≥ 0))) ?_; clear hF; intro a hF
     refine Vp hF (.bool (decide (cutF s j ≥ 0))) ?_; clear hF; intro a hF
     replace hF := hF.know (d := 133) (v' := .bool false) (by kernel_rfl) (congrArg Value.bool (decide_eq_false (show ¬ (cutF s j ≥ 0) from (by obtain rfl : j = 0 := (by omega); omega))))
     refine Lo hF ?_; clear hF; intro a hF
     refine Lo hF ?_; clear hF; intro a hF
     refine Lo hF ?_; clear hF; intro a hF
     refine Lo hF ?_; clear hF; intro a hF
     refine Lo hF ?_; clear hF; intro a hF
     refine Lo hF ?_; clear hF; intro a hF
     refine Vp hF (.bool false) ?_; clear hF; intro a hF
     refine Vp hF (.bool false) ?_; clear hF; intro a hF
     refine L_nil ?_
     refine hK35 _ _ ?_
     refine cond_f hF (by kernel_rfl) (by kernel_rfl) ?_
     refine wp_skip ?_
     refine hK34 _ _ ?_
     refine wp_seq_k fun K36 hK36 => ?_
     refine wp_block ?_
     refine loopX (τ := Nat × Option Addr × Nat × List UInt8) (fun (xτ : Nat × Option Addr × Nat × List UInt8) a Wx => (fun (k : Nat) (zq : Option Addr) (zqc : Nat) (zc : List UInt8) => (zc = acca ++ List.replicate k 0 ∧ acca.length + k + ([] : List UInt8).length ≤ 16) ∧ Fr 160 a [(2, .pointer (some ⟨b1, 0, none⟩)), (10, .slice zq zc.length zqc), (11, .slice (some ⟨b3, 0, none⟩) 0 0)] ∧ Own W noX [rowL u8L 1 5 zq zqc zc, rowL strL 1 9 q6 qc1 (splitOn s 58), .blk b3 (.cells #[] 5 (0, 0)), .blk b1 (.cells zFParseT 33 (0, 0))] Wx) (xτ.1) (xτ.2.1) (xτ.2.2.1) (xτ.2.2.2)) (fun (xτ : Nat × Option Addr × Nat × List UInt8) => (fun (k : Nat) (zq : Option Addr) (zqc : Nat) (zc : List UInt8) => 16 - k) (xτ.1) (xτ.2.1) (xτ.2.2.1) (xτ.2.2.2)) ((0, qa, qca, acca)) ⟨⟨by simp, by (try simp only [List.length_nil]); omega⟩, ?_, ?_⟩ ?_
     · exact hF.restrict ⟨(by kernel_rfl), (congrArg some (by first | rfl | exact congrArg (Value.int _) (by omega) | simp)), (by kernel_rfl), trivial⟩
     · exact hO.sub (.cons_cons _ (.cons_cons _ (.cons_cons _ (.cons_cons _ (List.nil_sublist _)))))
     clear hF hO; rintro ⟨k, zq, zqc, zc⟩ a Wl4 ⟨hZ, hF, hO⟩ KhK_4 hK_4
     try dsimp only at hZ
     refine wp_seq_k fun K37 hK37 => ?_
     refine wp_seq_k fun K38 hK38 => ?_
     refine wp_region_lit ?_
     refine Vp hF (.slice zq zc.length zqc) ?_; clear hF; intro a hF
     refine Vp hF (.int .i64 ((zc.length : Int))) ?_; clear hF; intro a hF
     refine Vp hF (.slice (some ⟨b3, 0, none⟩) 0 0) ?_; clear hF; intro a hF
     refine Vp hF (.int .i64 0) ?_; clear hF; intro a hF
     refine Vr hF (.int .i64 ((zc.length : Int) + 0)) (x_int (x := IntKind.i64.wrap ((zc.length : Int) + 0)) (i64In (by (first | omega | (have hcb := cutF_bd s j; omega) | (obtain rfl : j = 0 := (by omega); have hcb := cutF_bd s 0; omega) | ((try simp only [maxLen] at *); omega) | (have hq := congrArg List.length hZ.1; (try simp only [List.length_append, List.length_replicate, List.length_nil] at *); (try simp only [maxLen] at *); omega))) (by (first | omega | (have hcb := cutF_bd s j; omega) | (obtain rfl : j = 0 := (by omega); have hcb := cutF_bd s 0; omega) | ((try simp only [maxLen] at *); omega) | (have hq := congrArg List.length hZ.1; (try simp only [List.length_append, List.length_replicate, List.length_nil] at *); (try simp only [maxLen] at *); omega)))) (by kernel_rfl)) ?_; clear hF; intro a hF
     refine Vp hF (.bool (decide ((zc.length : Int) + 0 < 16))) ?_; clear hF; intro a hF
     refine L_nil ?_
     refine hK38 _ _ ?_
     by_cases q10 : (zc.length : Int) + 0 < 16
     ·
      replace hF := hF.know (d := 148) (v' := .bool true) (by kernel_rfl) (congrArg Value.bool (decide_eq_true q10))
      refine cond_t hF (by kernel_rfl) (by kernel_rfl) ?_
      refine wp_skip ?_
      refine hK37 _ _ ?_
      refine wp_block ?_
      refine wp_region_lit ?_
      refine Vp hF (.slice zq zc.length zqc) ?_; clear hF; intro a hF
      refine L_new hF hO (by kernel_rfl) (by kernel_rfl) (vf := fun b => .slice (some ⟨b, 0, none⟩) 1 1) (ob := .cells #[.int .u8 0] 5) (by kernel_rfl) (by kernel_rfl) ?_
      clear hF hO; intro b5 W9 a hO hF
      obtain ⟨p2, cap2, W10, hap, hO1, -⟩ := run_append_row (P := Tryz.prog) (ty := 46) (t := 46) (z := .int .u8 0) (k := 1) (bytes := 1) (q := some ⟨b5, 0, none⟩) (ys := ([0] : List UInt8)) (cq := 1) hO (.tail (.head _)) (by kernel_rfl) (by kernel_rfl) (by kernel_rfl) (by decide) (fun _ => rfl) (fun _ => rfl) (SlAt.blk hO List.mem_cons_self (by kernel_rfl)) (by (try simp only [List.length_append, List.length_take, List.length_drop, List.length_cons, List.length_nil, maxLen]); omega) (by (try simp only [List.length_append, List.length_take, List.length_drop, List.length_cons, List.length_nil, maxLen]); omega)
      refine L_valW hF (by kernel_rfl) (by kernel_rfl) (x_app hap rfl (by kernel_rfl) (by kernel_rfl) rfl) (by kernel_rfl) ?_
      clear hap hF; intro a hF; replace hO := hO1; clear hO1
      refine Vp hF (.slice p2 ((zc ++ ([0] : List UInt8)).length) cap2) ?_; clear hF; intro a hF
      refine L_nil ?_
      refine block_normal ?_
      refine hK_4 ((k + 1, p2, cap2, zc ++ ([0] : List UInt8))) _ _ ((by have hq := congrArg List.length hZ.1; simp only [List.length_append, List.length_replicate, List.length_nil] at hq; dsimp only; omega)) ⟨(by have hq := congrArg List.length hZ.1; simp only [List.length_append, List.length_replicate, List.length_nil] at hq; refine ⟨fill_round hZ.1, ?_⟩; dsimp only; (try simp only [List.length_nil]); omega), ?_, ?_⟩
      · exact hF.restrict ⟨(by kernel_rfl), (congrArg some (by first | rfl | exact congrArg (Value.int _) (by omega))), (by kernel_rfl), trivial⟩
      · exact hO.sub (.cons_cons _ (.cons _ (.cons_cons _ (.cons_cons _ (.cons_cons _ (List.nil_sublist _))))))
     ·
      replace hF := hF.know (d := 148) (v' := .bool false) (by kernel_rfl) (congrArg Value.bool (decide_eq_false q10))
      refine cond_f hF (by kernel_rfl) (by kernel_rfl) ?_
      refine wp_exit ?_
      refine then_exit ?_
      refine then_exit ?_
      refine inBlock_hit ?_
      refine hK36 _ _ ?_
      refine wp_seq_k fun K39 hK39 => ?_
      refine wp_region_lit ?_
      refine Vp hF (.agg zTParseT) ?_; clear hF; intro a hF
      refine L_new hF hO (by kernel_rfl) (by kernel_rfl) (vf := fun b => .pointer (some ⟨b, 0, none⟩)) (ob := .cells zFParseT 33) (by kernel_rfl) (by kernel_rfl) ?_
      clear hF hO; intro b6 W11 a hO hF
      obtain ⟨W12, hst, hO1⟩ := run_storeAt (P := Tryz.prog) (k := 17) (T := 33) (off := 0) (v := .agg zTParseT) (cs := zFParseT) (cs' := zTParseT) hO (by kernel_rfl) (by kernel_rfl) (by kernel_rfl) (Nat.le_of_ble_eq_true (by kernel_rfl)) (by kernel_rfl) (.head _)
      refine L_skip hF (by kernel_rfl) (by kernel_rfl) (x_store (p := .pointer (some ⟨b6, 0, none⟩)) (v := .agg zTParseT) rfl (by kernel_rfl) (by kernel_rfl) hst) (by kernel_rfl) ?_
      clear hst hF; intro a hF; replace hO := hO1; clear hO1
      refine L_nil ?_
      refine hK39 _ _ ?_
      refine wp_seq_k fun K40 hK40 => ?_
      refine A_start (fun Wx => Own W noX [rowL strL 1 9 q6 qc1 (splitOn s 58), .blk b3 (.cells #[] 5 (0, 0))] Wx) (by kernel_rfl) ?_
      replace hO := hO.drewN 1
      generalize hWd : ({ W12 with drawn := W12.drawn + 1 } : World) = W12_d at hO ⊢; clear hWd
      have hS := hO.sub (.cons _ (.cons _ (.cons_cons _ (.cons_cons _ (List.nil_sublist _)))))
      refine Tk 0 rfl hF (.pointer (some ⟨b6, 1, none⟩)) (fun Wx _ => by kernel_rfl) hS ?_; clear hF; intro a hF
      refine Tk 1 rfl hF (.slice (some ⟨b6, 1, none⟩) 16 16) (fun Wx _ => (x_slArr (b := b6) (off := 1) (n := 16) (elem := 5) (lo := 0) (hi := 16) rfl (by kernel_rfl) (by kernel_rfl) (by kernel_rfl) rfl rfl (by omega) (by omega) (by omega) (by kernel_rfl) (by first | rfl | omega) (by first | rfl | omega))) hS ?_; clear hF; intro a hF
      refine Tk 2 rfl hF (.slice zq zc.length zqc) (fun Wx _ => by kernel_rfl) hS ?_; clear hF; intro a hF
      refine Tk 3 rfl hF (.slice (some ⟨b3, 0, none⟩) 0 0) (fun Wx _ => by kernel_rfl) hS ?_; clear hF; intro a hF
      refine A_one (i := 4) (listed' := #[true, true, true, true, true, false]) (by kernel_rfl) rfl (by kernel_rfl) ?_
      obtain ⟨p3, cap3, W13, hap, hO1, -⟩ := run_append_row (P := Tryz.prog) (ty := 46) (t := 46) (z := .int .u8 0) (k := 1) (bytes := 1) (q := some ⟨b3, 0, none⟩) (ys := ([] : List UInt8)) (cq := 0) hO (.tail (.head _)) (by kernel_rfl) (by kernel_rfl) (by kernel_rfl) (by decide) (fun _ => rfl) (fun _ => rfl) (SlAt.blk hO (List.mem_cons_of_mem _ (List.mem_cons_of_mem _ (List.mem_cons_of_mem _ List.mem_cons_self))) (by kernel_rfl)) (by (try simp only [List.length_append, List.length_take, List.length_drop, List.length_cons, List.length_nil, maxLen]); (first | omega | (have hcb := cutF_bd s j; omega) | (obtain rfl : j = 0 := (by omega); have hcb := cutF_bd s 0; omega) | ((try simp only [maxLen] at *); omega) | (have hq := congrArg List.length hZ.1; (try simp only [List.length_append, List.length_replicate, List.length_nil] at *); (try simp only [maxLen] at *); omega))) (by (try simp only [List.length_append, List.length_take, List.length_drop, List.length_cons, List.length_nil, maxLen]); (first | omega | (have hcb := cutF_bd s j; omega) | (obtain rfl : j = 0 := (by omega); have hcb := cutF_bd s 0; omega) | ((try simp only [maxLen] at *); omega) | (have hq := congrArg List.length hZ.1; (try simp only [List.length_append, List.length_replicate, List.length_nil] at *); (try simp only [maxLen] at *); omega)))
      refine OpK.valW hF (by kernel_rfl) (by kernel_rfl) (x_app hap rfl (by kernel_rfl) (by kernel_rfl) rfl) (by kernel_rfl) ?_
      clear hap hF; intro a hF; replace hO := hO1; clear hO1
      refine ⟨hO.sub (.cons _ (.cons _ (.cons_cons _ (.cons_cons _ (List.nil_sublist _))))), ?_⟩
      refine A_one (i := 5) (listed' := #[true, true, true, true, true, true]) (by kernel_rfl) rfl (by kernel_rfl) ?_
      replace hO := hO.reblk (cs := zTParseT) (cs' := (ipL sixIp).toArray) (by kernel_rfl) (.tail (.head _))
      obtain ⟨W14, hst, hO1⟩ := run_copy_ip (P := Tryz.prog) (e := 5) (t := 46) (ty := 3) (j := 0) (n := 16) (c := 16) (off := 1) (cq := cap3) (q := p3) (A := zc ++ ([] : List UInt8)) hO (.tail (.head _)) (by kernel_rfl) (by kernel_rfl) (hO.row List.mem_cons_self) (by (first | omega | (have hcb := cutF_bd s j; omega) | (obtain rfl : j = 0 := (by omega); have hcb := cutF_bd s 0; omega) | ((try simp only [maxLen] at *); omega) | (have hq := congrArg List.length hZ.1; (try simp only [List.length_append, List.length_replicate, List.length_nil] at *); (try simp only [maxLen] at *); omega))) (by (first | omega | (have hcb := cutF_bd s j; omega) | (obtain rfl : j = 0 := (by omega); have hcb := cutF_bd s 0; omega) | ((try simp only [maxLen] at *); omega) | (have hq := congrArg List.length hZ.1; (try simp only [List.length_append, List.length_replicate, List.length_nil] at *); (try simp only [maxLen] at *); omega))) (by (try unfold arrOff); intros; (try split) <;> (first | omega | (have hcb := cutF_bd s j; omega) | (obtain rfl : j = 0 := (by omega); have hcb := cutF_bd s 0; omega) | ((try simp only [maxLen] at *); omega) | (have hq := congrArg List.length hZ.1; (try simp only [List.length_append, List.length_replicate, List.length_nil] at *); (try simp only [maxLen] at *); omega)))
      refine OpK.valW hF (by kernel_rfl) (by kernel_rfl) (x_copy hst rfl (by kernel_rfl) (by kernel_rfl) rfl) (by kernel_rfl) ?_
      clear hst hF; intro a hF; replace hO := hO1; clear hO1
      refine ⟨hO.sub (.cons _ (.cons _ (.cons_cons _ (.cons_cons _ (List.nil_sublist _))))), ?_⟩
      refine A_done (by kernel_rfl) ?_
      refine hK40 _ _ ?_
      refine wp_seq_k fun K41 hK41 => ?_
      refine wp_region_lit ?_
      refine Vr hF (ipV (sixIp.cpy 0 (zc ++ ([] : List UInt8)))) (x_load (p := .pointer (some ⟨b6, 0, none⟩)) rfl (by kernel_rfl) (run_loadA (k := 17) (by kernel_rfl) (by kernel_rfl) (hO.blk (List.mem_cons_of_mem _ List.mem_cons_self)) (by kernel_rfl) (by kernel_rfl))) ?_; clear hF; intro a hF
      obtain ⟨W15, hst, hO1⟩ := run_storeAt (P := Tryz.prog) (k := 17) (T := 33) (off := 0) (v := ipV (sixIp.cpy 0 (zc ++ ([] : List UInt8)))) (cs := zFParseT) (cs' := (ipL (sixIp.cpy 0 (zc ++ ([] : List UInt8)))).toArray) hO (by kernel_rfl) (by kernel_rfl) (by kernel_rfl) (Nat.le_of_ble_eq_true (by kernel_rfl)) (by kernel_rfl) (.tail (.tail (.tail (.tail (.head _)))))
      refine L_skip hF (by kernel_rfl) (by kernel_rfl) (x_store (p := .pointer (some ⟨b1, 0, none⟩)) (v := ipV (sixIp.cpy 0 (zc ++ ([] : List UInt8)))) rfl (by kernel_rfl) (by kernel_rfl) hst) (by kernel_rfl) ?_
      clear hst hF; intro a hF; replace hO := hO1; clear hO1
      refine Vp hF (.bool true) ?_; clear hF; intro a hF
      refine L_nil ?_
      refine hK41 _ _ ?_
      refine wp_ret ?_
      refine ret2 hF (v := ipV (sixIp.cpy 0 (zc ++ ([] : List UInt8)))) (u := .bool true) rfl (resC (ad := ⟨b1, 0, none⟩) (by kernel_rfl) (run_loadA (k := 17) (by kernel_rfl) (by kernel_rfl) (hO.blk (List.mem_cons_of_mem _ (List.mem_cons_of_mem _ (List.mem_cons_of_mem _ (List.mem_cons_of_mem _ List.mem_cons_self))))) (by kernel_rfl) (by kernel_rfl))) (resT (by kernel_rfl)) (by refine ⟨?_, hO.nil⟩; (first | (rw [parN_bad hc hcut (piece_bad (i := ia) (by omega) (by omega) (by assumption))]; rfl) | (rw [parN_len hc hcut (piece_ok (i := ia) (by omega) (by omega) hA) (by omega)]; rfl) | (rw [parN_ok hc hcut (piece_ok (i := ia) (by omega) (by omega) hA) (by omega) hZ.1 (by have hq := congrArg List.length hZ.1; have hz2 := hZ.2; simp only [List.length_append, List.length_replicate, List.length_nil] at hq hz2 ⊢; omega)]; rfl))) .ret (.inl rfl)
    ·
     replace hF := hF.know (d := 130) (v' := .bool true) (by kernel_rfl) (congrArg Value.bool (neT q9))
     refine Lo hF ?_; clear hF; intro a hF
     refine Lo hF ?_; clear hF; intro a hF
     refine Lo hF ?_; clear hF; intro a hF
     refine Lo hF ?_; clear hF; intro a hF
     refine Lo hF ?_; clear hF; intro a hF
     refine Lo hF ?_; clear hF; intro a hF
     refine Lo hF ?_; clear hF; intro a hF
     refine Lo hF ?_; clear hF; intro a hF
     refine Lo hF ?_; clear hF; intro a hF
     refine Lo hF ?_; clear hF; intro a hF
     refine Vp hF (.bool true) ?_; clear hF; intro a hF
     refine L_nil ?_
     refine hK35 _ _ ?_
     refine cond_t hF (by kernel_rfl) (by kernel_rfl) ?_
     refine wp_seq_k fun K42 hK42 => ?_
     refine wp_region_lit ?_
     refine Vp hF (.agg zFParseT) ?_; clear hF; intro a hF
     obtain ⟨W16, hst, hO1⟩ := run_storeAt (P := Tryz.prog) (k := 17) (T := 33) (off := 0) (v := .agg zFParseT) (cs := zFParseT) (cs' := zFParseT) hO (by kernel_rfl) (by kernel_rfl) (by kernel_rfl) (Nat.le_of_ble_eq_true (by kernel_rfl)) (by kernel_rfl) (.tail (.tail (.tail (.head _))))
     refine L_skip hF (by kernel_rfl) (by kernel_rfl) (x_store (p := .pointer (some ⟨b1, 0, none⟩)) (v := .agg zFParseT) rfl (by kernel_rfl) (by kernel_rfl) hst) (by kernel_rfl) ?_
     clear hst hF; intro a hF; replace hO := hO1; clear hO1
     refine Vp hF (.bool false) ?_; clear hF; intro a hF
     refine L_nil ?_
     refine hK42 _ _ ?_
     refine wp_ret ?_
     refine then_ret ?_
     refine ret2 hF (v := ipV noIp) (u := .bool false) rfl (resC (ad := ⟨b1, 0, none⟩) (by kernel_rfl) (run_loadA (k := 17) (by kernel_rfl) (by kernel_rfl) (hO.blk (List.mem_cons_of_mem _ (List.mem_cons_of_mem _ (List.mem_cons_of_mem _ List.mem_cons_self)))) (by kernel_rfl) (by kernel_rfl))) (resT (by kernel_rfl)) (by refine ⟨?_, hO.nil⟩; (first | (rw [parN_bad hc hcut (piece_bad (i := ia) (by omega) (by omega) (by assumption))]; rfl) | (rw [parN_len hc hcut (piece_ok (i := ia) (by omega) (by omega) hA) (by omega)]; rfl) | (rw [parN_ok hc hcut (piece_ok (i := ia) (by omega) (by omega) hA) (by omega) hZ.1 (by have hq := congrArg List.length hZ.1; have hz2 := hZ.2; simp only [List.length_append, List.length_replicate, List.length_nil] at hq hz2 ⊢; omega)]; rfl))) .ret (.inl rfl)

set_option maxRecDepth 20000 in
set_option maxHeartbeats 2000000 in
theorem ref02_ParseS (s : ByteArray) (W : World) (hs : s.size ≤ 1000000) (hc : hasC s = true) (hcut : ¬ cutF s 0 < 0) : Ret Tryz.prog 31 #[.string s] W fun v W' => v = retOk (parseIp s) ∧ Own W noX [] W' := by
 have hll : s.data.toList.length = s.size := Array.length_toList
 have hcp := hasC_pos hc
 refine enter Tryz.func31 rfl (n := 160) rfl (by kernel_rfl) (E0 := [(0, .string s)]) (by kernel_rfl) ?_
 intro a hF; have hO := Own.start W noX
 refine wp_seq_k fun K1 hK1 => ?_
 refine wp_region_lit ?_
 refine L_new hF hO (by kernel_rfl) (by kernel_rfl) (vf := fun b => .pointer (some ⟨b, 0, none⟩)) (ob := .cells zFParseT 33) (by kernel_rfl) (by kernel_rfl) ?_
 clear hF hO; intro b1 W1 a hO hF
 refine Vp hF (.bool false) ?_; clear hF; intro a hF
 refine L_nil ?_
 refine hK1 _ _ ?_
 refine wp_seq_k fun K2 hK2 => ?_
 refine wp_region_lit ?_
 refine Vp hF (.bool false) ?_; clear hF; intro a hF
 refine L_nil ?_
 refine hK2 _ _ ?_
 refine wp_seq_k fun K3 hK3 => ?_
 refine wp_seq_k fun K4 hK4 => ?_
 refine wp_region_lit ?_
 refine Vp hF (.int .i64 0) ?_; clear hF; intro a hF
 refine L_nil ?_
 refine hK4 _ _ ?_
 refine wp_block ?_
 refine loopX (τ := Nat) (fun (i : Nat) a Wx => (i ≤ s.size) ∧ Fr 160 a [(0, .string s), (2, .pointer (some ⟨b1, 0, none⟩)), (3, .bool false), (4, .bool (hasI s i)), (5, .int .i64 ((i : Int)))] ∧ Own W noX [.blk b1 (.cells zFParseT 33 (0, 0))] Wx) (fun (i : Nat) => s.size - i) (0) ⟨Nat.zero_le _, ?_, ?_⟩ ?_
 · exact hF.restrict ⟨(by kernel_rfl), (by kernel_rfl), (by kernel_rfl), (congrArg some (by first | rfl | simp)), (congrArg some (by rfl)), trivial⟩
 · exact hO.sub (.cons_cons _ (List.nil_sublist _))
 clear hF hO; rintro i a Wl1 ⟨hI, hF, hO⟩ KhK_1 hK_1
 try dsimp only at hI
 refine wp_seq_k fun K5 hK5 => ?_
 refine wp_seq_k fun K6 hK6 => ?_
 refine wp_region_lit ?_
 refine Vp hF (.int .i64 ((i : Int))) ?_; clear hF; intro a hF
 refine Vp hF (.string s) ?_; clear hF; intro a hF
 refine Vp hF (.int .i64 ((s.size : Int))) ?_; clear hF; intro a hF
 refine Vp hF (.bool (decide ((i : Int) < (s.size : Int)))) ?_; clear hF; intro a hF
 refine L_nil ?_
 refine hK6 _ _ ?_
 by_cases q1 : (i : Int) < (s.size : Int)
 ·
  replace hF := hF.know (d := 22) (v' := .bool true) (by kernel_rfl) (congrArg Value.bool (decide_eq_true q1))
  refine cond_t hF (by kernel_rfl) (by kernel_rfl) ?_
  refine wp_skip ?_
  refine hK5 _ _ ?_
  refine wp_seq_k fun K7 hK7 => ?_
  refine wp_block ?_
  refine wp_region_lit ?_
  refine Vp hF (.bool (hasI s i)) ?_; clear hF; intro a hF
  refine Vp hF (.bool (hasI s i)) ?_; clear hF; intro a hF
  cases q2 : (hasI s i : Bool)
  ·
   replace hF := hF.know (d := 26) (v' := .bool false) (by kernel_rfl) (congrArg Value.bool q2)
   refine Vp hF (.string s) ?_; clear hF; intro a hF
   refine Vp hF (.int .i64 ((i : Int))) ?_; clear hF; intro a hF
   refine Vr hF (.int .u8 (bt s (i : Int))) (x_idxStr (s := s) (k := .i64) (i := (i : Int)) rfl (by kernel_rfl) (by kernel_rfl) (by kernel_rfl) (by omega) (by omega)) ?_; clear hF; intro a hF
   refine Vp hF (.bool ((bt s (i : Int)) == 58)) ?_; clear hF; intro a hF
   refine Vp hF (.bool ((bt s (i : Int)) == 58)) ?_; clear hF; intro a hF
   refine Vp hF (.bool ((bt s (i : Int)) == 58)) ?_; clear hF; intro a hF
   refine L_nil ?_
   refine block_normal ?_
   refine hK7 _ _ ?_
   refine wp_region_lit ?_
   refine Vp hF (.int .i64 ((i : Int))) ?_; clear hF; intro a hF
   refine Vr hF (.int .i64 ((i : Int) + 1)) (x_int (x := IntKind.i64.wrap ((i : Int) + 1)) (i64In (by omega) (by omega)) (by kernel_rfl)) ?_; clear hF; intro a hF
   refine Vp hF (.int .i64 ((i : Int) + 1)) ?_; clear hF; intro a hF
   refine L_nil ?_
   refine hK_1 (i + 1) _ _ (by first | omega | (dsimp only; omega)) ⟨by omega, ?_, ?_⟩
   · exact hF.restrict ⟨(by kernel_rfl), (by kernel_rfl), (by kernel_rfl), (congrArg some (by first | exact congrArg Value.bool (hasI_t (by omega) (by assumption)) | exact congrArg Value.bool (hasI_f (by omega) (by assumption)))), (congrArg some (by exact congrArg (Value.int _) (by omega))), trivial⟩
   · exact hO.sub (.cons_cons _ (List.nil_sublist _))
  ·
   replace hF := hF.know (d := 26) (v' := .bool true) (by kernel_rfl) (congrArg Value.bool q2)
   refine Lo hF ?_; clear hF; intro a hF
   refine Lo hF ?_; clear hF; intro a hF
   refine Lo hF ?_; clear hF; intro a hF
   refine Lo hF ?_; clear hF; intro a hF
   refine Vp hF (.bool true) ?_; clear hF; intro a hF
   refine Vp hF (.bool true) ?_; clear hF; intro a hF
   refine L_nil ?_
   refine block_normal ?_
   refine hK7 _ _ ?_
   refine wp_region_lit ?_
   refine Vp hF (.int .i64 ((i : Int))) ?_; clear hF; intro a hF
   refine Vr hF (.int .i64 ((i : Int) + 1)) (x_int (x := IntKind.i64.wrap ((i : Int) + 1)) (i64In (by omega) (by omega)) (by kernel_rfl)) ?_; clear hF; intro a hF
   refine Vp hF (.int .i64 ((i : Int) + 1)) ?_; clear hF; intro a hF
   refine L_nil ?_
   refine hK_1 (i + 1) _ _ (by first | omega | (dsimp only; omega)) ⟨by omega, ?_, ?_⟩
   · exact hF.restrict ⟨(by kernel_rfl), (by kernel_rfl), (by kernel_rfl), (congrArg some (by first | exact congrArg Value.bool (hasI_t (by omega) (by assumption)) | exact congrArg Value.bool (hasI_f (by omega) (by assumption)))), (congrArg some (by exact congrArg (Value.int _) (by omega))), trivial⟩
   · exact hO.sub (.cons_cons _ (List.nil_sublist _))
 ·
  replace hF := hF.know (d := 22) (v' := .bool false) (by kernel_rfl) (congrArg Value.bool (decide_eq_false q1))
  refine cond_f hF (by kernel_rfl) (by kernel_rfl) ?_
  refine wp_exit ?_
  refine then_exit ?_
  refine then_exit ?_
  refine inBlock_hit ?_
  refine hK3 _ _ ?_
  refine wp_seq_k fun K8 hK8 => ?_
  refine wp_seq_k fun K9 hK9 => ?_
  refine wp_region_lit ?_
  refine Vp hF (.bool (hasI s i)) ?_; clear hF; intro a hF
  refine Vp hF (.bool (!(hasI s i))) ?_; clear hF; intro a hF
  refine L_nil ?_
  refine hK9 _ _ ?_
  replace hF := hF.know (d := 33) (v' := .bool false) (by kernel_rfl) (congrArg Value.bool (notF (show (hasI s i) = true from ((hasI_all (by omega)).trans hc))))
  refine cond_f hF (by kernel_rfl) (by kernel_rfl) ?_
  refine wp_skip ?_
  refine hK8 _ _ ?_
  refine wp_seq_k fun K10 hK10 => ?_
  refine wp_region_lit ?_
  refine Vp hF (.int .i64 (-1)) ?_; clear hF; intro a hF
  refine L_nil ?_
  refine hK10 _ _ ?_
  refine wp_seq_k fun K11 hK11 => ?_
  refine wp_seq_k fun K12 hK12 => ?_
  refine wp_region_lit ?_
  refine Vp hF (.string s) ?_; clear hF; intro a hF
  refine Vp hF (.int .i64 ((s.size : Int))) ?_; clear hF; intro a hF
  refine Vr hF (.int .i64 ((s.size : Int) - 2)) (x_int (x := IntKind.i64.wrap ((s.size : Int) - 2)) (i64In (by omega) (by omega)) (by kernel_rfl)) ?_; clear hF; intro a hF
  refine Vp hF (.int .i64 ((s.size : Int) - 2)) ?_; clear hF; intro a hF
  refine L_nil ?_
  refine hK12 _ _ ?_
  refine wp_block ?_
  refine loopX (τ := Nat) (fun (j : Nat) a Wx => (j < s.size) ∧ Fr 160 a [(0, .string s), (2, .pointer (some ⟨b1, 0, none⟩)), (3, .bool false), (6, .int .i64 (cutF s j)), (7, .int .i64 ((j : Int) - 1))] ∧ Own W noX [.blk b1 (.cells zFParseT 33 (0, 0))] Wx) (fun (j : Nat) => j) (s.size - 1) ⟨by omega, ?_, ?_⟩ ?_
  · exact hF.restrict ⟨(by kernel_rfl), (by kernel_rfl), (by kernel_rfl), (congrArg some (by exact congrArg (Value.int _) (cutF_last s _ (by omega)).symm)), (congrArg some (by exact congrArg (Value.int _) (by omega))), trivial⟩
  · exact hO.sub (.cons_cons _ (List.nil_sublist _))
  clear hF hO; rintro j a Wl2 ⟨hI, hF, hO⟩ KhK_2 hK_2
  try dsimp only at hI
  refine wp_seq_k fun K13 hK13 => ?_
  refine wp_seq_k fun K14 hK14 => ?_
  refine wp_region_lit ?_
  refine Vp hF (.int .i64 ((j : Int) - 1)) ?_; clear hF; intro a hF
  refine Vp hF (.bool (decide ((j : Int) - 1 ≥ 0))) ?_; clear hF; intro a hF
  refine L_nil ?_
  refine hK14 _ _ ?_
  by_cases q3 : (j : Int) - 1 ≥ 0
  ·
   replace hF := hF.know (d := 42) (v' := .bool true) (by kernel_rfl) (congrArg Value.bool (decide_eq_true q3))
   refine cond_t hF (by kernel_rfl) (by kernel_rfl) ?_
   refine wp_skip ?_
   refine hK13 _ _ ?_
   refine wp_seq_k fun K15 hK15 => ?_
   refine wp_block ?_
   refine wp_seq_k fun K16 hK16 => ?_
   refine wp_region_lit ?_
   refine Vp hF (.string s) ?_; clear hF; intro a hF
   refine Vp hF (.int .i64 ((j : Int) - 1)) ?_; clear hF; intro a hF
   refine Vr hF (.int .u8 (bt s ((j : Int) - 1))) (x_idxStr (s := s) (k := .i64) (i := (j : Int) - 1) rfl (by kernel_rfl) (by kernel_rfl) (by kernel_rfl) (by omega) (by omega)) ?_; clear hF; intro a hF
   refine Vp hF (.bool ((bt s ((j : Int) - 1)) == 58)) ?_; clear hF; intro a hF
   refine Vp hF (.bool ((bt s ((j : Int) - 1)) == 58)) ?_; clear hF; intro a hF
   by_cases q4 : bt s ((j : Int) - 1) = 58
   ·
    replace hF := hF.know (d := 49) (v' := .bool true) (by kernel_rfl) (congrArg Value.bool (eqT q4))
    refine Vp hF (.string s) ?_; clear hF; intro a hF
    refine Vp hF (.int .i64 ((j : Int) - 1)) ?_; clear hF; intro a hF
    refine Vr hF (.int .i64 ((j : Int) - 1 + 1)) (x_int (x := IntKind.i64.wrap ((j : Int) - 1 + 1)) (i64In (by omega) (by omega)) (by kernel_rfl)) ?_; clear hF; intro a hF
    refine Vr hF (.int .u8 (bt s ((j : Int) - 1 + 1))) (x_idxStr (s := s) (k := .i64) (i := (j : Int) - 1 + 1) rfl (by kernel_rfl) (by kernel_rfl) (by kernel_rfl) (by omega) (by omega)) ?_; clear hF; intro a hF
    refine Vp hF (.bool ((bt s ((j : Int) - 1 + 1)) == 58)) ?_; clear hF; intro a hF
    refine Vp hF (.bool ((bt s ((j : Int) - 1 + 1)) == 58)) ?_; clear hF; intro a hF
    refine L_nil ?_
    refine hK16 _ _ ?_
    by_cases q5 : bt s ((j : Int) - 1 + 1) = 58
    ·
     replace hF := hF.know (d := 55) (v' := .bool true) (by kernel_rfl) (congrArg Value.bool (eqT q5))
     refine cond_t hF (by kernel_rfl) (by kernel_rfl) ?_
     refine wp_region_lit ?_
     refine Vp hF (.int .i64 ((j : Int) - 1)) ?_; clear hF; intro a hF
     refine Vp hF (.int .i64 ((j : Int) - 1)) ?_; clear hF; intro a hF
     refine L_nil ?_
     refine block_normal ?_
     refine hK15 _ _ ?_
     refine wp_region_lit ?_
     refine Vp hF (.int .i64 ((j : Int) - 1)) ?_; clear hF; intro a hF
     refine Vr hF (.int .i64 (((j : Int) - 1) - 1)) (x_int (x := IntKind.i64.wrap (((j : Int) - 1) - 1)) (i64In (by omega) (by omega)) (by kernel_rfl)) ?_; clear hF; intro a hF
     refine Vp hF (.int .i64 (((j : Int) - 1) - 1)) ?_; clear hF; intro a hF
     refine L_nil ?_
     refine hK_2 (j - 1) _ _ (by first | omega | (dsimp only; omega)) ⟨by omega, ?_, ?_⟩
     · exact hF.restrict ⟨(by kernel_rfl), (by kernel_rfl), (by kernel_rfl), (congrArg some (by first | exact congrArg (Value.int _) (cut_h (by omega) (by omega) (u8_eq (by assumption)) (u8_eq (by assumption))) | exact congrArg (Value.int _) (cut_r (by omega) (by omega) (fun e => u8_ne (by assumption) e.1)) | exact congrArg (Value.int _) (cut_r (by omega) (by omega) (fun e => u8_ne (by assumption) e.2)))), (congrArg some (by exact congrArg (Value.int _) (by omega))), trivial⟩
     · exact hO.sub (.cons_cons _ (List.nil_sublist _))
    ·
     replace hF := hF.know (d := 55) (v' := .bool false) (by kernel_rfl) (congrArg Value.bool (eqF q5))
     refine cond_f hF (by kernel_rfl) (by kernel_rfl) ?_
     refine wp_skip ?_
     refine block_normal ?_
     refine hK15 _ _ ?_
     refine wp_region_lit ?_
     refine Vp hF (.int .i64 ((j : Int) - 1)) ?_; clear hF; intro a hF
     refine Vr hF (.int .i64 (((j : Int) - 1) - 1)) (x_int (x := IntKind.i64.wrap (((j : Int) - 1) - 1)) (i64In (by omega) (by omega)) (by kernel_rfl)) ?_; clear hF; intro a hF
     refine Vp hF (.int .i64 (((j : Int) - 1) - 1)) ?_; clear hF; intro a hF
     refine L_nil ?_
     refine hK_2 (j - 1) _ _ (by first | omega | (dsimp only; omega)) ⟨by omega, ?_, ?_⟩
     · exact hF.restrict ⟨(by kernel_rfl), (by kernel_rfl), (by kernel_rfl), (congrArg some (by first | exact congrArg (Value.int _) (cut_h (by omega) (by omega) (u8_eq (by assumption)) (u8_eq (by assumption))) | exact congrArg (Value.int _) (cut_r (by omega) (by omega) (fun e => u8_ne (by assumption) e.1)) | exact congrArg (Value.int _) (cut_r (by omega) (by omega) (fun e => u8_ne (by assumption) e.2)))), (congrArg some (by exact congrArg (Value.int _) (by omega))), trivial⟩
     · exact hO.sub (.cons_cons _ (List.nil_sublist _))
   ·
    replace hF := hF.know (d := 49) (v' := .bool false) (by kernel_rfl) (congrArg Value.bool (eqF q4))
    refine Lo hF ?_; clear hF; intro a hF
    refine Lo hF ?_; clear hF; intro a hF
    refine Lo hF ?_; clear hF; intro a hF
    refine Lo hF ?_; clear hF; intro a hF
    refine Lo hF ?_; clear hF; intro a hF
    refine Vp hF (.bool false) ?_; clear hF; intro a hF
    refine L_nil ?_
    refine hK16 _ _ ?_
    refine cond_f hF (by kernel_rfl) (by kernel_rfl) ?_
    refine wp_skip ?_
    refine block_normal ?_
    refine hK15 _ _ ?_
    refine wp_region_lit ?_
    refine Vp hF (.int .i64 ((j : Int) - 1)) ?_; clear hF; intro a hF
    refine Vr hF (.int .i64 (((j : Int) - 1) - 1)) (x_int (x := IntKind.i64.wrap (((j : Int) - 1) - 1)) (i64In (by omega) (by omega)) (by kernel_rfl)) ?_; clear hF; intro a hF
    refine Vp hF (.int .i64 (((j : Int) - 1) - 1)) ?_; clear hF; intro a hF
    refine L_nil ?_
    refine hK_2 (j - 1) _ _ (by first | omega | (dsimp only; omega)) ⟨by omega, ?_, ?_⟩
    · exact hF.restrict ⟨(by kernel_rfl), (by kernel_rfl), (by kernel_rfl), (congrArg some (by first | exact congrArg (Value.int _) (cut_h (by omega) (by omega) (u8_eq (by assumption)) (u8_eq (by assumption))) | exact congrArg (Value.int _) (cut_r (by omega) (by omega) (fun e => u8_ne (by assumption) e.1)) | exact congrArg (Value.int _) (cut_r (by omega) (by omega) (fun e => u8_ne (by assumption) e.2)))), (congrArg some (by exact congrArg (Value.int _) (by omega))), trivial⟩
    · exact hO.sub (.cons_cons _ (List.nil_sublist _))
  ·
   replace hF := hF.know (d := 42) (v' := .bool false) (by kernel_rfl) (congrArg Value.bool (decide_eq_false q3))
   refine cond_f hF (by kernel_rfl) (by kernel_rfl) ?_
   refine wp_exit ?_
   refine then_exit ?_
   refine then_exit ?_
   refine inBlock_hit ?_
   refine hK11 _ _ ?_
   refine wp_seq_k fun K17 hK17 => ?_
   refine wp_region_lit ?_
   refine Vp hF (.string s) ?_; clear hF; intro a hF
   refine Vp hF (.string s) ?_; clear hF; intro a hF
   refine Vp hF (.string (⟨#[]⟩ : ByteArray)) ?_; clear hF; intro a hF
   refine L_nil ?_
   refine hK17 _ _ ?_
   refine wp_seq_k fun K18 hK18 => ?_
   refine wp_seq_k fun K19 hK19 => ?_
   refine wp_region_lit ?_
   refine Vp hF (.int .i64 (cutF s j)) ?_; clear hF; intro a hF
   refine Vp hF (.bool (decide (cutF s j ≥ 0))) ?_; clear hF; intro a hF
   refine L_nil ?_
   refine hK19 _ _ ?_
   replace hF := hF.know (d := 59) (v' := .bool true) (by kernel_rfl) (congrArg Value.bool (decide_eq_true (show cutF s j ≥ 0 from (by obtain rfl : j = 0 := (by omega); omega))))
   refine cond_t hF (by kernel_rfl) (by kernel_rfl) ?_
   refine A_start (fun Wx => Own W noX [] Wx) (by kernel_rfl) ?_
   replace hO := hO.drewN 1
   generalize hWd : ({ Wl2 with drawn := Wl2.drawn + 1 } : World) = Wl2_d at hO ⊢; clear hWd
   have hS := hO.sub (List.nil_sublist _)
   refine Tk 0 rfl hF (.string s) (fun Wx _ => by kernel_rfl) hS ?_; clear hF; intro a hF
   refine Tk 1 rfl hF (.int .i64 (cutF s j)) (fun Wx _ => by kernel_rfl) hS ?_; clear hF; intro a hF
   refine Tk 2 rfl hF (.string (s.extract 0 ((cutF s j).toNat))) (fun Wx _ => (x_slStrH (s := s) (k' := .i64) (j := cutF s j) rfl (by kernel_rfl) (by kernel_rfl) (by kernel_rfl) (by (first | omega | (have hcb := cutF_bd s j; omega) | (obtain rfl : j = 0 := (by omega); have hcb := cutF_bd s 0; omega) | ((try simp only [maxLen] at *); omega) | (have hq := congrArg List.length hZ.1; (try simp only [List.length_append, List.length_replicate, List.length_nil] at *); (try simp only [maxLen] at *); omega))) (by (first | omega | (have hcb := cutF_bd s j; omega) | (obtain rfl : j = 0 := (by omega); have hcb := cutF_bd s 0; omega) | ((try simp only [maxLen] at *); omega) | (have hq := congrArg List.length hZ.1; (try simp only [List.length_append, List.length_replicate, List.length_nil] at *); (try simp only [maxLen] at *); omega))))) hS ?_; clear hF; intro a hF
   refine Tk 3 rfl hF (.string s) (fun Wx _ => by kernel_rfl) hS ?_; clear hF; intro a hF
   refine Tk 4 rfl hF (.int .i64 (cutF s j)) (fun Wx _ => by kernel_rfl) hS ?_; clear hF; intro a hF
   refine Tk 5 rfl hF (.int .i64 (cutF s j + 2)) (fun Wx _ => (x_int (x := IntKind.i64.wrap (cutF s j + 2)) (i64In (by (first | omega | (have hcb := cutF_bd s j; omega) | (obtain rfl : j = 0 := (by omega); have hcb := cutF_bd s 0; omega) | ((try simp only [maxLen] at *); omega) | (have hq := congrArg List.length hZ.1; (try simp only [List.length_append, List.length_replicate, List.length_nil] at *); (try simp only [maxLen] at *); omega))) (by (first | omega | (have hcb := cutF_bd s j; omega) | (obtain rfl : j = 0 := (by omega); have hcb := cutF_bd s 0; omega) | ((try simp only [maxLen] at *); omega) | (have hq := congrArg List.length hZ.1; (try simp only [List.length_append, List.length_replicate, List.length_nil] at *); (try simp only [maxLen] at *); omega)))) (by kernel_rfl))) hS ?_; clear hF; intro a hF
   refine Tk 6 rfl hF (.string (s.extract ((cutF s j + 2).toNat) s.size)) (fun Wx _ => (x_slStrL (s := s) (k := .i64) (i := cutF s j + 2) rfl (by kernel_rfl) (by kernel_rfl) (by kernel_rfl) (by (first | omega | (have hcb := cutF_bd s j; omega) | (obtain rfl : j = 0 := (by omega); have hcb := cutF_bd s 0; omega) | ((try simp only [maxLen] at *); omega) | (have hq := congrArg List.length hZ.1; (try simp only [List.length_append, List.length_replicate, List.length_nil] at *); (try simp only [maxLen] at *); omega))) (by (first | omega | (have hcb := cutF_bd s j; omega) | (obtain rfl : j = 0 := (by omega); have hcb := cutF_bd s 0; omega) | ((try simp only [maxLen] at *); omega) | (have hq := congrArg List.length hZ.1; (try simp only [List.length_append, List.length_replicate, List.length_nil] at *); (try simp only [maxLen] at *); omega))))) hS ?_; clear hF; intro a hF
   refine Tk 7 rfl hF (.string (s.extract 0 ((cutF s j).toNat))) (fun Wx _ => by kernel_rfl) hS ?_; clear hF; intro a hF
   refine Tk 8 rfl hF (.string (s.extract ((cutF s j + 2).toNat) s.size)) (fun Wx _ => by kernel_rfl) hS ?_; clear hF; intro a hF
   refine A_done (by kernel_rfl) ?_
   refine hK18 _ _ ?_
   refine wp_seq_k fun K20 hK20 => ?_
   refine wp_region_lit ?_
   refine L_new hF hO (by kernel_rfl) (by kernel_rfl) (vf := fun b => .slice (some ⟨b, 0, none⟩) 0 0) (ob := .cells #[] 5) (by kernel_rfl) (by kernel_rfl) ?_
   clear hF hO; intro b2 W2 a hO hF
   refine L_new hF hO (by kernel_rfl) (by kernel_rfl) (vf := fun b => .slice (some ⟨b, 0, none⟩) 0 0) (ob := .cells #[] 5) (by kernel_rfl) (by kernel_rfl) ?_
   clear hF hO; intro b3 W3 a hO hF
   refine Vp hF (.slice (some ⟨b2, 0, none⟩) 0 0) ?_; clear hF; intro a hF
   refine Vp hF (.slice (some ⟨b3, 0, none⟩) 0 0) ?_; clear hF; intro a hF
   refine L_nil ?_
   refine hK20 _ _ ?_
   refine wp_seq_k fun K21 hK21 => ?_
   refine wp_seq_k fun K22 hK22 => ?_
   refine wp_region_lit ?_
   refine Vp hF (.int .i64 (cutF s j)) ?_; clear hF; intro a hF
   refine Vp hF (.bool (decide (cutF s j < 0))) ?_; clear hF; intro a hF
   refine Vp hF (.bool (decide (cutF s j < 0))) ?_; clear hF; intro a hF
   replace hF := hF.know (d := 71) (v' := .bool false) (by kernel_rfl) (congrArg Value.bool (decide_eq_false (show ¬ (cutF s j < 0) from (by obtain rfl : j = 0 := (by omega); omega))))
   refine Vp hF (.string (s.extract 0 ((cutF s j).toNat))) ?_; clear hF; intro a hF
   refine Vp hF (.int .i64 (((s.extract 0 ((cutF s j).toNat)).size : Int))) ?_; clear hF; intro a hF
   refine Vp hF (.bool (decide (((s.extract 0 ((cutF s j).toNat)).size : Int) > 0))) ?_; clear hF; intro a hF
   refine Vp hF (.bool (decide (((s.extract 0 ((cutF s j).toNat)).size : Int) > 0))) ?_; clear hF; intro a hF
   refine L_nil ?_
   refine hK22 _ _ ?_
   by_cases q6 : ((s.extract 0 ((cutF s j).toNat)).size : Int) > 0
   ·
    replace hF := hF.know (d := 75) (v' := .bool true) (by kernel_rfl) (congrArg Value.bool (decide_eq_true q6))
    refine cond_t hF (by kernel_rfl) (by kernel_rfl) ?_
    refine wp_seq_k fun K23 hK23 => ?_
    refine wp_region_lit ?_
    refine Vp hF (.string (s.extract 0 ((cutF s j).toNat))) ?_; clear hF; intro a hF
    refine Lc hF (ref02_splitg (s.extract 0 ((cutF s j).toNat)) 58 W3 (by first | omega | exact Nat.le_trans (ext_le _ _ _) hs)) ?_
    clear hF; rintro _ W4 a ⟨q7, qc1, hsl_q7, rfl, hk⟩ hF
    replace hO := hO.call1 hk; clear hk
    refine Vp hF (.int .i64 (((splitOn (s.extract 0 ((cutF s j).toNat)) 58).length : Int))) ?_; clear hF; intro a hF
    refine Vp hF (.int .i64 0) ?_; clear hF; intro a hF
    refine L_nil ?_
    refine hK23 _ _ ?_
    refine wp_block ?_
    replace hO := hO.asRow (k := 1) (cap := 0) u8L ([] : List UInt8) (.tail (.tail (.head _))) (by decide) (by kernel_rfl) (by decide) (by kernel_rfl)
    replace hO := hO.front (.tail (.tail (.head _)))
    refine loopX (τ := Nat × Option Addr × Nat × List UInt8) (fun (xτ : Nat × Option Addr × Nat × List UInt8) a Wx => (fun (ia : Nat) (qa : Option Addr) (qca : Nat) (acca : List UInt8) => (ia ≤ (splitOn (s.extract 0 ((cutF s j).toNat)) 58).length ∧ (∀ y, y < ia → 0 ≤ grpP (nth (splitOn (s.extract 0 ((cutF s j).toNat)) 58) y)) ∧ acca = ((splitOn (s.extract 0 ((cutF s j).toNat)) 58).take ia).flatMap grpB ∧ acca.length ≤ 2 * ia) ∧ Fr 160 a [(2, .pointer (some ⟨b1, 0, none⟩)), (6, .int .i64 (cutF s j)), (9, .string (s.extract ((cutF s j + 2).toNat) s.size)), (10, .slice qa acca.length qca), (11, .slice (some ⟨b3, 0, none⟩) 0 0), (77, .slice q7 ((splitOn (s.extract 0 ((cutF s j).toNat)) 58).length) qc1), (78, .int .i64 (((splitOn (s.extract 0 ((cutF s j).toNat)) 58).length : Int))), (79, .int .i64 ((ia : Int)))] ∧ Own W noX [rowL u8L 1 5 qa qca acca, rowL strL 1 9 q7 qc1 (splitOn (s.extract 0 ((cutF s j).toNat)) 58), .blk b3 (.cells #[] 5 (0, 0)), .blk b1 (.cells zFParseT 33 (0, 0))] Wx) (xτ.1) (xτ.2.1) (xτ.2.2.1) (xτ.2.2.2)) (fun (xτ : Nat × Option Addr × Nat × List UInt8) => (fun (ia : Nat) (qa : Option Addr) (qca : Nat) (acca : List UInt8) => (splitOn (s.extract 0 ((cutF s j).toNat)) 58).length - ia) (xτ.1) (xτ.2.1) (xτ.2.2.1) (xτ.2.2.2)) ((0, some ⟨b2, 0, none⟩, 0, ([] : List UInt8))) ⟨⟨Nat.zero_le _, fun j h => by omega, rfl, Nat.le_refl _⟩, ?_, ?_⟩ ?_
    · exact hF.restrict ⟨(by kernel_rfl), (by kernel_rfl), (by kernel_rfl), (congrArg some (by first | rfl | exact congrArg (Value.int _) (by omega) | simp)), (by kernel_rfl), (by kernel_rfl), (by kernel_rfl), (congrArg some (by first | rfl | exact congrArg (Value.int _) (by omega) | simp)), trivial⟩
    · exact hO.sub (.cons_cons _ (.cons_cons _ (.cons_cons _ (.cons_cons _ (List.nil_sublist _)))))
    clear hF hO; rintro ⟨ia, qa, qca, acca⟩ a Wl3 ⟨hA, hF, hO⟩ KhK_3 hK_3
    try dsimp only at hA
    refine wp_seq_k fun K24 hK24 => ?_
    refine wp_region_lit ?_
    refine Vp hF (.bool (decide ((ia : Int) < ((splitOn (s.extract 0 ((cutF s j).toNat)) 58).length : Int)))) ?_; clear hF; intro a hF
    refine L_nil ?_
    refine hK24 _ _ ?_
    refine wp_seq_k fun K25 hK25 => ?_
    by_cases q8 : (ia : Int) < ((splitOn (s.extract 0 ((cutF s j).toNat)) 58).length : Int)
    ·
     replace hF := hF.know (d := 80) (v' := .bool true) (by kernel_rfl) (congrArg Value.bool (decide_eq_true q8))
     refine cond_t hF (by kernel_rfl) (by kernel_rfl) ?_
     refine wp_skip ?_
     refine hK25 _ _ ?_
     refine wp_seq_k fun K26 hK26 => ?_
     refine wp_block ?_
     refine wp_seq_k fun K27 hK27 => ?_
     refine wp_region_lit ?_
     refine Vr hF (.pointer (some ⟨(ab q7), ao q7 + ia * 1, none⟩)) (x_idxAddrS (p := q7) (len := (splitOn (s.extract 0 ((cutF s j).toNat)) 58).length) (cap := qc1) (elem := 9) (kd := .i64) (k := 1) (i := (ia : Int)) rfl (by kernel_rfl) (by kernel_rfl) (by kernel_rfl) (by kernel_rfl) (by omega) (by omega) (SlAt.ne (k := 1) (hO.row (List.mem_cons_of_mem _ List.mem_cons_self)) (fun _ => rfl) (by decide) (by (first | omega | (simp only [List.length_set, List.length_take, List.length_drop, List.length_append, List.length_cons, List.length_nil]; done) | (simp only [List.length_set, List.length_take, List.length_drop, List.length_append, List.length_cons, List.length_nil]; omega) | (simp only [List.length_set, List.length_take, List.length_drop, List.length_append, List.length_cons, List.length_nil] at *; omega)) : ia < (splitOn (s.extract 0 ((cutF s j).toNat)) 58).length))) ?_; clear hF; intro a hF
     refine Vr hF (.string (nth (splitOn (s.extract 0 ((cutF s j).toNat)) 58) ia)) (x_load (p := .pointer (some ⟨(ab q7), ao q7 + ia * 1, none⟩)) rfl (by kernel_rfl) (run_loadEl1 (by kernel_rfl) (hO.row (List.mem_cons_of_mem _ List.mem_cons_self)) (fun _ => rfl) (by (first | omega | (simp only [List.length_set, List.length_take, List.length_drop, List.length_append, List.length_cons, List.length_nil]; done) | (simp only [List.length_set, List.length_take, List.length_drop, List.length_append, List.length_cons, List.length_nil]; omega) | (simp only [List.length_set, List.length_take, List.length_drop, List.length_append, List.length_cons, List.length_nil] at *; omega))) rfl)) ?_; clear hF; intro a hF
     refine Vp hF (.string (nth (splitOn (s.extract 0 ((cutF s j).toNat)) 58) ia)) ?_; clear hF; intro a hF
     refine L_nil ?_
     refine hK27 _ _ ?_
     refine wp_seq_k fun K28 hK28 => ?_
     refine wp_region_lit ?_
     refine Vp hF (.string (nth (splitOn (s.extract 0 ((cutF s j).toNat)) 58) ia)) ?_; clear hF; intro a hF
     refine Lc hF (ref02_number16g (nth (splitOn (s.extract 0 ((cutF s j).toNat)) 58) ia) Wl3 (by exact Nat.le_trans (split_size _ 58 _ (nth_mem (by omega))) (by first | exact hs | exact Nat.le_trans (ext_le _ _ _) hs))) ?_
     clear hF; rintro _ W5 a ⟨hgb, rfl, hk⟩ hF
     replace hO := hO.call0 hk; clear hk
     refine Vp hF (.int .i64 ((grpP (nth (splitOn (s.extract 0 ((cutF s j).toNat)) 58) ia)))) ?_; clear hF; intro a hF
     refine L_nil ?_
     refine hK28 _ _ ?_
     refine wp_seq_k fun K29 hK29 => ?_
     refine wp_seq_k fun K30 hK30 => ?_
     refine wp_region_lit ?_
     refine Vp hF (.int .i64 ((grpP (nth (splitOn (s.extract 0 ((cutF s j).toNat)) 58) ia)))) ?_; clear hF; intro a hF
     refine Vp hF (.bool (decide ((grpP (nth (splitOn (s.extract 0 ((cutF s j).toNat)) 58) ia)) < 0))) ?_; clear hF; intro a hF
     refine L_nil ?_
     refine hK30 _ _ ?_
     by_cases q9 : (grpP (nth (splitOn (s.extract 0 ((cutF s j).toNat)) 58) ia)) < 0
     ·
      replace hF := hF.know (d := 86) (v' := .bool true) (by kernel_rfl) (congrArg Value.bool (decide_eq_true q9))
      refine cond_t hF (by kernel_rfl) (by kernel_rfl) ?_
      refine wp_seq_k fun K31 hK31 => ?_
      refine wp_region_lit ?_
      refine Vp hF (.agg zFParseT) ?_; clear hF; intro a hF
      obtain ⟨W6, hst, hO1⟩ := run_storeAt (P := Tryz.prog) (k := 17) (T := 33) (off := 0) (v := .agg zFParseT) (cs := zFParseT) (cs' := zFParseT) hO (by kernel_rfl) (by kernel_rfl) (by kernel_rfl) (Nat.le_of_ble_eq_true (by kernel_rfl)) (by kernel_rfl) (.tail (.tail (.tail (.head _))))
      refine L_skip hF (by kernel_rfl) (by kernel_rfl) (x_store (p := .pointer (some ⟨b1, 0, none⟩)) (v := .agg zFParseT) rfl (by kernel_rfl) (by kernel_rfl) hst) (by kernel_rfl) ?_
      clear hst hF; intro a hF; replace hO := hO1; clear hO1
      refine Vp hF (.bool false) ?_; clear hF; intro a hF
      refine L_nil ?_
      refine hK31 _ _ ?_
      refine wp_ret ?_
      refine then_ret ?_
      refine block_ret ?_
      refine then_ret ?_
      refine then_ret ?_
      refine block_ret ?_
      refine then_ret ?_
      refine ret2 hF (v := ipV noIp) (u := .bool false) rfl (resC (ad := ⟨b1, 0, none⟩) (by kernel_rfl) (run_loadA (k := 17) (by kernel_rfl) (by kernel_rfl) (hO.blk (List.mem_cons_of_mem _ (List.mem_cons_of_mem _ (List.mem_cons_of_mem _ List.mem_cons_self)))) (by kernel_rfl) (by kernel_rfl))) (resT (by kernel_rfl)) (by refine ⟨?_, hO.nil⟩; (obtain rfl : j = 0 := (by omega); first | (rw [parS_bad1 hc hcut (piece_bad (i := ia) (by omega) (by omega) (by assumption))]; rfl) | (rw [parS_bad2 hc hcut (piece_bad (i := ib) (by omega) (by omega) (by assumption))]; rfl) | (rw [parS_len hc hcut (by first | exact piece_ok (i := ia) (by omega) (by omega) hA | exact piece_nil (by omega)) (by first | exact piece_ok (i := ib) (by omega) (by omega) hB | exact piece_nil (by omega)) (by (try simp only [List.length_nil]); omega)]; rfl) | (rw [parS_ok hc hcut (by first | exact piece_ok (i := ia) (by omega) (by omega) hA | exact piece_nil (by omega)) (by first | exact piece_ok (i := ib) (by omega) (by omega) hB | exact piece_nil (by omega)) (by (try simp only [List.length_nil]); omega) hZ.1 (by have hq := congrArg List.length hZ.1; have hz2 := hZ.2; simp only [List.length_append, List.length_replicate, List.length_nil] at hq hz2 ⊢; omega)]; rfl))) .ret (.inl rfl)
     ·
      replace hF := hF.know (d := 86) (v' := .bool false) (by kernel_rfl) (congrArg Value.bool (decide_eq_false q9))
      refine cond_f hF (by kernel_rfl) (by kernel_rfl) ?_
      refine wp_skip ?_
      refine hK29 _ _ ?_
      refine wp_region_lit ?_
      refine Vp hF (.slice qa acca.length qca) ?_; clear hF; intro a hF
      refine Vp hF (.int .i64 ((grpP (nth (splitOn (s.extract 0 ((cutF s j).toNat)) 58) ia)))) ?_; clear hF; intro a hF
      refine Vr hF (.int .i64 ((grpP (nth (splitOn (s.extract 0 ((cutF s j).toNat)) 58) ia)) / 256)) (x_int (x := IntKind.i64.wrap (Int.tdiv (grpP (nth (splitOn (s.extract 0 ((cutF s j).toNat)) 58) ia)) 256)) (i64Quo (by decide) (by omega) (by omega)) (by kernel_rfl)) ?_; clear hF; intro a hF
      refine Vr hF (.int .u8 (((ub ((grpP (nth (splitOn (s.extract 0 ((cutF s j).toNat)) 58) ia)) / 256)).toNat : Int))) (x_int (x := IntKind.u8.wrap ((grpP (nth (splitOn (s.extract 0 ((cutF s j).toNat)) 58) ia)) / 256)) (ub_wrap _) (by kernel_rfl)) ?_; clear hF; intro a hF
      refine Vp hF (.int .i64 ((grpP (nth (splitOn (s.extract 0 ((cutF s j).toNat)) 58) ia)))) ?_; clear hF; intro a hF
      refine Vr hF (.int .i64 ((grpP (nth (splitOn (s.extract 0 ((cutF s j).toNat)) 58) ia)) % 256)) (x_int (x := Int.tmod (grpP (nth (splitOn (s.extract 0 ((cutF s j).toNat)) 58) ia)) 256) (rem_pos (by omega)) (by kernel_rfl)) ?_; clear hF; intro a hF
      refine Vr hF (.int .u8 (((ub ((grpP (nth (splitOn (s.extract 0 ((cutF s j).toNat)) 58) ia)) % 256)).toNat : Int))) (x_int (x := IntKind.u8.wrap ((grpP (nth (splitOn (s.extract 0 ((cutF s j).toNat)) 58) ia)) % 256)) (ub_wrap _) (by kernel_rfl)) ?_; clear hF; intro a hF
      refine L_new hF hO (by kernel_rfl) (by kernel_rfl) (vf := fun b => .slice (some ⟨b, 0, none⟩) 2 2) (ob := .cells #[.int .u8 (((ub ((grpP (nth (splitOn (s.extract 0 ((cutF s j).toNat)) 58) ia)) / 256)).toNat : Int)), .int .u8 (((ub ((grpP (nth (splitOn (s.extract 0 ((cutF s j).toNat)) 58) ia)) % 256)).toNat : Int))] 5) (by kernel_rfl) (by kernel_rfl) ?_
      clear hF hO; intro b4 W7 a hO hF
      obtain ⟨p1, cap1, W8, hap, hO1, -⟩ := run_append_row (P := Tryz.prog) (ty := 46) (t := 46) (z := .int .u8 0) (k := 1) (bytes := 1) (q := some ⟨b4, 0, none⟩) (ys := ([(ub ((grpP (nth (splitOn (s.extract 0 ((cutF s j).toNat)) 58) ia)) / 256)), (ub ((grpP (nth (splitOn (s.extract 0 ((cutF s j).toNat)) 58) ia)) % 256))] : List UInt8)) (cq := 2) hO (.tail (.head _)) (by kernel_rfl) (by kernel_rfl) (by kernel_rfl) (by decide) (fun _ => rfl) (fun _ => rfl) (SlAt.blk hO List.mem_cons_self (by kernel_rfl)) (by (try simp only [List.length_append, List.length_take, List.length_drop, List.length_cons, List.length_nil, maxLen]); omega) (by (try simp only [List.length_append, List.length_take, List.length_drop, List.length_cons, List.length_nil, maxLen]); omega)
      refine L_valW hF (by kernel_rfl) (by kernel_rfl) (x_app hap rfl (by kernel_rfl) (by kernel_rfl) rfl) (by kernel_rfl) ?_
      clear hap hF; intro a hF; replace hO := hO1; clear hO1
      refine Vp hF (.slice p1 ((acca ++ ([(ub ((grpP (nth (splitOn (s.extract 0 ((cutF s j).toNat)) 58) ia)) / 256)), (ub ((grpP (nth (splitOn (s.extract 0 ((cutF s j).toNat)) 58) ia)) % 256))] : List UInt8)).length) cap1) ?_; clear hF; intro a hF
      refine L_nil ?_
      refine block_normal ?_
      refine hK26 _ _ ?_
      refine wp_region_lit ?_
      refine Vr hF (.int .i64 ((ia : Int) + 1)) (x_int (x := IntKind.i64.wrap ((ia : Int) + 1)) (i64In (by omega) (by omega)) (by kernel_rfl)) ?_; clear hF; intro a hF
      refine Vp hF (.int .i64 ((ia : Int) + 1)) ?_; clear hF; intro a hF
      refine L_nil ?_
      refine hK_3 ((ia + 1, p1, cap1, acca ++ ([(ub ((grpP (nth (splitOn (s.extract 0 ((cutF s j).toNat)) 58) ia)) / 256)), (ub ((grpP (nth (splitOn (s.extract 0 ((cutF s j).toNat)) 58) ia)) % 256))] : List UInt8))) _ _ (by first | omega | (dsimp only; omega)) ⟨roundR hA q8 q9, ?_, ?_⟩
      · exact hF.restrict ⟨(by kernel_rfl), (by kernel_rfl), (by kernel_rfl), (congrArg some (by first | rfl | exact congrArg (Value.int _) (by omega))), (by kernel_rfl), (by kernel_rfl), (by kernel_rfl), (congrArg some (by first | rfl | exact congrArg (Value.int _) (by omega))), trivial⟩
      · exact hO.sub (.cons_cons _ (.cons _ (.cons_cons _ (.cons_cons _ (.cons_cons _ (List.nil_sublist _))))))
    ·
     replace hF := hF.know (d := 80) (v' := .bool false) (by kernel_rfl) (congrArg Value.bool (decide_eq_false q8))
     refine cond_f hF (by kernel_rfl) (by kernel_rfl) ?_
     refine wp_exit ?_
     refine then_exit ?_
     refine then_exit ?_
     refine inBlock_hit ?_
     refine hK21 _ _ ?_
     refine wp_seq_k fun K32 hK32 => ?_
     refine wp_seq_k fun K33 hK33 => ?_
     refine wp_region_lit ?_
     refine Vp hF (.string (s.extract ((cutF s j + 2).toNat) s.size)) ?_; clear hF; intro a hF
     refine Vp hF (.int .i64 (((s.extract ((cutF s j + 2).toNat) s.size).size : Int))) ?_; clear hF; intro a hF
     refine Vp hF (.bool (decide (((s.extract ((cutF s j + 2).toNat) s.size).size : Int) > 0))) ?_; clear hF; intro a hF
     refine L_nil ?_
     refine hK33 _ _ ?_
     by_cases q10 : ((s.extract ((cutF s j + 2).toNat) s.size).size : Int) > 0
     ·
      replace hF := hF.know (d := 100) (v' := .bool true) (by kernel_rfl) (congrArg Value.bool (decide_eq_true q10))
      refine cond_t hF (by kernel_rfl) (by kernel_rfl) ?_
      refine wp_seq_k fun K34 hK34 => ?_
      refine wp_region_lit ?_
      refine Vp hF (.string (s.extract ((cutF s j + 2).toNat) s.size)) ?_; clear hF; intro a hF
      refine Lc hF (ref02_splitg (s.extract ((cutF s j + 2).toNat) s.size) 58 Wl3 (by first | omega | exact Nat.le_trans (ext_le _ _ _) hs)) ?_
      clear hF; rintro _ W9 a ⟨q11, qc2, hsl_q11, rfl, hk⟩ hF
      replace hO := hO.call1 hk; clear hk
      refine Vp hF (.int .i64 (((splitOn (s.extract ((cutF s j + 2).toNat) s.size) 58).length : Int))) ?_; clear hF; intro a hF
      refine Vp hF (.int .i64 0) ?_; clear hF; intro a hF
      refine L_nil ?_
      refine hK34 _ _ ?_
      refine wp_block ?_
      replace hO := hO.asRow (k := 1) (cap := 0) u8L ([] : List UInt8) (.tail (.tail (.tail (.head _)))) (by decide) (by kernel_rfl) (by decide) (by kernel_rfl)
      replace hO := hO.front (.tail (.tail (.tail (.head _))))
      refine loopX (τ := Nat × Option Addr × Nat × List UInt8) (fun (xτ : Nat × Option Addr × Nat × List UInt8) a Wx => (fun (ib : Nat) (qb : Option Addr) (qcb : Nat) (accb : List UInt8) => (ib ≤ (splitOn (s.extract ((cutF s j + 2).toNat) s.size) 58).length ∧ (∀ y, y < ib → 0 ≤ grpP (nth (splitOn (s.extract ((cutF s j + 2).toNat) s.size) 58) y)) ∧ accb = ((splitOn (s.extract ((cutF s j + 2).toNat) s.size) 58).take ib).flatMap grpB ∧ accb.length ≤ 2 * ib) ∧ Fr 160 a [(2, .pointer (some ⟨b1, 0, none⟩)), (6, .int .i64 (cutF s j)), (10, .slice qa acca.length qca), (11, .slice qb accb.length qcb), (102, .slice q11 ((splitOn (s.extract ((cutF s j + 2).toNat) s.size) 58).length) qc2), (103, .int .i64 (((splitOn (s.extract ((cutF s j + 2).toNat) s.size) 58).length : Int))), (104, .int .i64 ((ib : Int)))] ∧ Own W noX [rowL u8L 1 5 qb qcb accb, rowL strL 1 9 q11 qc2 (splitOn (s.extract ((cutF s j + 2).toNat) s.size) 58), rowL u8L 1 5 qa qca acca, rowL strL 1 9 q7 qc1 (splitOn (s.extract 0 ((cutF s j).toNat)) 58), .blk b1 (.cells zFParseT 33 (0, 0))] Wx) (xτ.1) (xτ.2.1) (xτ.2.2.1) (xτ.2.2.2)) (fun (xτ : Nat × Option Addr × Nat × List UInt8) => (fun (ib : Nat) (qb : Option Addr) (qcb : Nat) (accb : List UInt8) => (splitOn (s.extract ((cutF s j + 2).toNat) s.size) 58).length - ib) (xτ.1) (xτ.2.1) (xτ.2.2.1) (xτ.2.2.2)) ((0, some ⟨b3, 0, none⟩, 0, ([] : List UInt8))) ⟨⟨Nat.zero_le _, fun j h => by omega, rfl, Nat.le_refl _⟩, ?_, ?_⟩ ?_
      · exact hF.restrict ⟨(by kernel_rfl), (by kernel_rfl), (by kernel_rfl), (congrArg some (by first | rfl | exact congrArg (Value.int _) (by omega) | simp)), (by kernel_rfl), (by kernel_rfl), (congrArg some (by first | rfl | exact congrArg (Value.int _) (by omega) | simp)), trivial⟩
      · exact hO.sub (.cons_cons _ (.cons_cons _ (.cons_cons _ (.cons_cons _ (.cons_cons _ (List.nil_sublist _))))))
      clear hF hO; rintro ⟨ib, qb, qcb, accb⟩ a Wl4 ⟨hB, hF, hO⟩ KhK_4 hK_4
      try dsimp only at hB
      refine wp_seq_k fun K35 hK35 => ?_
      refine wp_region_lit ?_
      refine Vp hF (.bool (decide ((ib : Int) < ((splitOn (s.extract ((cutF s j + 2).toNat) s.size) 58).length : Int)))) ?_; clear hF; intro a hF
      refine L_nil ?_
      refine hK35 _ _ ?_
      refine wp_seq_k fun K36 hK36 => ?_
      by_cases q12 : (ib : Int) < ((splitOn (s.extract ((cutF s j + 2).toNat) s.size) 58).length : Int)
      ·
       replace hF := hF.know (d := 105) (v' := .bool true) (by kernel_rfl) (congrArg Value.bool (decide_eq_true q12))
       refine cond_t hF (by kernel_rfl) (by kernel_rfl) ?_
       refine wp_skip ?_
       refine hK36 _ _ ?_
       refine wp_seq_k fun K37 hK37 => ?_
       refine wp_block ?_
       refine wp_seq_k fun K38 hK38 => ?_
       refine wp_region_lit ?_
       refine Vr hF (.pointer (some ⟨(ab q11), ao q11 + ib * 1, none⟩)) (x_idxAddrS (p := q11) (len := (splitOn (s.extract ((cutF s j + 2).toNat) s.size) 58).length) (cap := qc2) (elem := 9) (kd := .i64) (k := 1) (i := (ib : Int)) rfl (by kernel_rfl) (by kernel_rfl) (by kernel_rfl) (by kernel_rfl) (by omega) (by omega) (SlAt.ne (k := 1) (hO.row (List.mem_cons_of_mem _ List.mem_cons_self)) (fun _ => rfl) (by decide) (by (first | omega | (simp only [List.length_set, List.length_take, List.length_drop, List.length_append, List.length_cons, List.length_nil]; done) | (simp only [List.length_set, List.length_take, List.length_drop, List.length_append, List.length_cons, List.length_nil]; omega) | (simp only [List.length_set, List.length_take, List.length_drop, List.length_append, List.length_cons, List.length_nil] at *; omega)) : ib < (splitOn (s.extract ((cutF s j + 2).toNat) s.size) 58).length))) ?_; clear hF; intro a hF
       refine Vr hF (.string (nth (splitOn (s.extract ((cutF s j + 2).toNat) s.size) 58) ib)) (x_load (p := .pointer (some ⟨(ab q11), ao q11 + ib * 1, none⟩)) rfl (by kernel_rfl) (run_loadEl1 (by kernel_rfl) (hO.row (List.mem_cons_of_mem _ List.mem_cons_self)) (fun _ => rfl) (by (first | omega | (simp only [List.length_set, List.length_take, List.length_drop, List.length_append, List.length_cons, List.length_nil]; done) | (simp only [List.length_set, List.length_take, List.length_drop, List.length_append, List.length_cons, List.length_nil]; omega) | (simp only [List.length_set, List.length_take, List.length_drop, List.length_append, List.length_cons, List.length_nil] at *; omega))) rfl)) ?_; clear hF; intro a hF
       refine Vp hF (.string (nth (splitOn (s.extract ((cutF s j + 2).toNat) s.size) 58) ib)) ?_; clear hF; intro a hF
       refine L_nil ?_
       refine hK38 _ _ ?_
       refine wp_seq_k fun K39 hK39 => ?_
       refine wp_region_lit ?_
       refine Vp hF (.string (nth (splitOn (s.extract ((cutF s j + 2).toNat) s.size) 58) ib)) ?_; clear hF; intro a hF
       refine Lc hF (ref02_number16g (nth (splitOn (s.extract ((cutF s j + 2).toNat) s.size) 58) ib) Wl4 (by exact Nat.le_trans (split_size _ 58 _ (nth_mem (by omega))) (by first | exact hs | exact Nat.le_trans (ext_le _ _ _) hs))) ?_
       clear hF; rintro _ W10 a ⟨hgb, rfl, hk⟩ hF
       replace hO := hO.call0 hk; clear hk
       refine Vp hF (.int .i64 ((grpP (nth (splitOn (s.extract ((cutF s j + 2).toNat) s.size) 58) ib)))) ?_; clear hF; intro a hF
       refine L_nil ?_
       refine hK39 _ _ ?_
       refine wp_seq_k fun K40 hK40 => ?_
       refine wp_seq_k fun K41 hK41 => ?_
       refine wp_region_lit ?_
       refine Vp hF (.int .i64 ((grpP (nth (splitOn (s.extract ((cutF s j + 2).toNat) s.size) 58) ib)))) ?_; clear hF; intro a hF
       refine Vp hF (.bool (decide ((grpP (nth (splitOn (s.extract ((cutF s j + 2).toNat) s.size) 58) ib)) < 0))) ?_; clear hF; intro a hF
       refine L_nil ?_
       refine hK41 _ _ ?_
       by_cases q13 : (grpP (nth (splitOn (s.extract ((cutF s j + 2).toNat) s.size) 58) ib)) < 0
       ·
        replace hF := hF.know (d := 111) (v' := .bool true) (by kernel_rfl) (congrArg Value.bool (decide_eq_true q13))
        refine cond_t hF (by kernel_rfl) (by kernel_rfl) ?_
        refine wp_seq_k fun K42 hK42 => ?_
        refine wp_region_lit ?_
        refine Vp hF (.agg zFParseT) ?_; clear hF; intro a hF
        obtain ⟨W11, hst, hO1⟩ := run_storeAt (P := Tryz.prog) (k := 17) (T := 33) (off := 0) (v := .agg zFParseT) (cs := zFParseT) (cs' := zFParseT) hO (by kernel_rfl) (by kernel_rfl) (by kernel_rfl) (Nat.le_of_ble_eq_true (by kernel_rfl)) (by kernel_rfl) (.tail (.tail (.tail (.tail (.head _)))))
        refine L_skip hF (by kernel_rfl) (by kernel_rfl) (x_store (p := .pointer (some ⟨b1, 0, none⟩)) (v := .agg zFParseT) rfl (by kernel_rfl) (by kernel_rfl) hst) (by kernel_rfl) ?_
        clear hst hF; intro a hF; replace hO := hO1; clear hO1
        refine Vp hF (.bool false) ?_; clear hF; intro a hF
        refine L_nil ?_
        refine hK42 _ _ ?_
        refine wp_ret ?_
        refine then_ret ?_
        refine block_ret ?_
        refine then_ret ?_
        refine then_ret ?_
        refine block_ret ?_
        refine then_ret ?_
        refine ret2 hF (v := ipV noIp) (u := .bool false) rfl (resC (ad := ⟨b1, 0, none⟩) (by kernel_rfl) (run_loadA (k := 17) (by kernel_rfl) (by kernel_rfl) (hO.blk (List.mem_cons_of_mem _ (List.mem_cons_of_mem _ (List.mem_cons_of_mem _ (List.mem_cons_of_mem _ List.mem_cons_self))))) (by kernel_rfl) (by kernel_rfl))) (resT (by kernel_rfl)) (by refine ⟨?_, hO.nil⟩; (obtain rfl : j = 0 := (by omega); first | (rw [parS_bad1 hc hcut (piece_bad (i := ia) (by omega) (by omega) (by assumption))]; rfl) | (rw [parS_bad2 hc hcut (piece_bad (i := ib) (by omega) (by omega) (by assumption))]; rfl) | (rw [parS_len hc hcut (by first | exact piece_ok (i := ia) (by omega) (by omega) hA | exact piece_nil (by omega)) (by first | exact piece_ok (i := ib) (by omega) (by omega) hB | exact piece_nil (by omega)) (by (try simp only [List.length_nil]); omega)]; rfl) | (rw [parS_ok hc hcut (by first | exact piece_ok (i := ia) (by omega) (by omega) hA | exact piece_nil (by omega)) (by first | exact piece_ok (i := ib) (by omega) (by omega) hB | exact piece_nil (by omega)) (by (try simp only [List.length_nil]); omega) hZ.1 (by have hq := congrArg List.length hZ.1; have hz2 := hZ.2; simp only [List.length_append, List.length_replicate, List.length_nil] at hq hz2 ⊢; omega)]; rfl))) .ret (.inl rfl)
       ·
        replace hF := hF.know (d := 111) (v' := .bool false) (by kernel_rfl) (congrArg Value.bool (decide_eq_false q13))
        refine cond_f hF (by kernel_rfl) (by kernel_rfl) ?_
        refine wp_skip ?_
        refine hK40 _ _ ?_
        refine wp_region_lit ?_
        refine Vp hF (.slice qb accb.length qcb) ?_; clear hF; intro a hF
        refine Vp hF (.int .i64 ((grpP (nth (splitOn (s.extract ((cutF s j + 2).toNat) s.size) 58) ib)))) ?_; clear hF; intro a hF
        refine Vr hF (.int .i64 ((grpP (nth (splitOn (s.extract ((cutF s j + 2).toNat) s.size) 58) ib)) / 256)) (x_int (x := IntKind.i64.wrap (Int.tdiv (grpP (nth (splitOn (s.extract ((cutF s j + 2).toNat) s.size) 58) ib)) 256)) (i64Quo (by decide) (by omega) (by omega)) (by kernel_rfl)) ?_; clear hF; intro a hF
        refine Vr hF (.int .u8 (((ub ((grpP (nth (splitOn (s.extract ((cutF s j + 2).toNat) s.size) 58) ib)) / 256)).toNat : Int))) (x_int (x := IntKind.u8.wrap ((grpP (nth (splitOn (s.extract ((cutF s j + 2).toNat) s.size) 58) ib)) / 256)) (ub_wrap _) (by kernel_rfl)) ?_; clear hF; intro a hF
        refine Vp hF (.int .i64 ((grpP (nth (splitOn (s.extract ((cutF s j + 2).toNat) s.size) 58) ib)))) ?_; clear hF; intro a hF
        refine Vr hF (.int .i64 ((grpP (nth (splitOn (s.extract ((cutF s j + 2).toNat) s.size) 58) ib)) % 256)) (x_int (x := Int.tmod (grpP (nth (splitOn (s.extract ((cutF s j + 2).toNat) s.size) 58) ib)) 256) (rem_pos (by omega)) (by kernel_rfl)) ?_; clear hF; intro a hF
        refine Vr hF (.int .u8 (((ub ((grpP (nth (splitOn (s.extract ((cutF s j + 2).toNat) s.size) 58) ib)) % 256)).toNat : Int))) (x_int (x := IntKind.u8.wrap ((grpP (nth (splitOn (s.extract ((cutF s j + 2).toNat) s.size) 58) ib)) % 256)) (ub_wrap _) (by kernel_rfl)) ?_; clear hF; intro a hF
        refine L_new hF hO (by kernel_rfl) (by kernel_rfl) (vf := fun b => .slice (some ⟨b, 0, none⟩) 2 2) (ob := .cells #[.int .u8 (((ub ((grpP (nth (splitOn (s.extract ((cutF s j + 2).toNat) s.size) 58) ib)) / 256)).toNat : Int)), .int .u8 (((ub ((grpP (nth (splitOn (s.extract ((cutF s j + 2).toNat) s.size) 58) ib)) % 256)).toNat : Int))] 5) (by kernel_rfl) (by kernel_rfl) ?_
        clear hF hO; intro b5 W12 a hO hF
        obtain ⟨p2, cap2, W13, hap, hO1, -⟩ := run_append_row (P := Tryz.prog) (ty := 46) (t := 46) (z := .int .u8 0) (k := 1) (bytes := 1) (q := some ⟨b5, 0, none⟩) (ys := ([(ub ((grpP (nth (splitOn (s.extract ((cutF s j + 2).toNat) s.size) 58) ib)) / 256)), (ub ((grpP (nth (splitOn (s.extract ((cutF s j + 2).toNat) s.size) 58) ib)) % 256))] : List UInt8)) (cq := 2) hO (.tail (.head _)) (by kernel_rfl) (by kernel_rfl) (by kernel_rfl) (by decide) (fun _ => rfl) (fun _ => rfl) (SlAt.blk hO List.mem_cons_self (by kernel_rfl)) (by (try simp only [List.length_append, List.length_take, List.length_drop, List.length_cons, List.length_nil, maxLen]); omega) (by (try simp only [List.length_append, List.length_take, List.length_drop, List.length_cons, List.length_nil, maxLen]); omega)
        refine L_valW hF (by kernel_rfl) (by kernel_rfl) (x_app hap rfl (by kernel_rfl) (by kernel_rfl) rfl) (by kernel_rfl) ?_
        clear hap hF; intro a hF; replace hO := hO1; clear hO1
        refine Vp hF (.slice p2 ((accb ++ ([(ub ((grpP (nth (splitOn (s.extract ((cutF s j + 2).toNat) s.size) 58) ib)) / 256)), (ub ((grpP (nth (splitOn (s.extract ((cutF s j + 2).toNat) s.size) 58) ib)) % 256))] : List UInt8)).length) cap2) ?_; clear hF; intro a hF
        refine L_nil ?_
        refine block_normal ?_
        refine hK37 _ _ ?_
        refine wp_region_lit ?_
        refine Vr hF (.int .i64 ((ib : Int) + 1)) (x_int (x := IntKind.i64.wrap ((ib : Int) + 1)) (i64In (by omega) (by omega)) (by kernel_rfl)) ?_; clear hF; intro a hF
        refine Vp hF (.int .i64 ((ib : Int) + 1)) ?_; clear hF; intro a hF
        refine L_nil ?_
        refine hK_4 ((ib + 1, p2, cap2, accb ++ ([(ub ((grpP (nth (splitOn (s.extract ((cutF s j + 2).toNat) s.size) 58) ib)) / 256)), (ub ((grpP (nth (splitOn (s.extract ((cutF s j + 2).toNat) s.size) 58) ib)) % 256))] : List UInt8))) _ _ (by first | omega | (dsimp only; omega)) ⟨roundR hB q12 q13, ?_, ?_⟩
        · exact hF.restrict ⟨(by kernel_rfl), (by kernel_rfl), (by kernel_rfl), (congrArg some (by first | rfl | exact congrArg (Value.int _) (by omega))), (by kernel_rfl), (by kernel_rfl), (congrArg some (by first | rfl | exact congrArg (Value.int _) (by omega))), trivial⟩
        · exact hO.sub (.cons_cons _ (.cons _ (.cons_cons _ (.cons_cons _ (.cons_cons _ (.cons_cons _ (List.nil_sublist _)))))))
      ·
       replace hF := hF.know (d := 105) (v' := .bool false) (by kernel_rfl) (congrArg Value.bool (decide_eq_false q12))
       refine cond_f hF (by kernel_rfl) (by kernel_rfl) ?_
       refine wp_exit ?_
       refine then_exit ?_
       refine then_exit ?_
       refine inBlock_hit ?_
       refine hK32 _ _ ?_
       refine wp_seq_k fun K43 hK43 => ?_
       refine wp_seq_k fun K44 hK44 => ?_
       refine wp_region_lit ?_
       refine Vp hF (.int .i64 (cutF s j)) ?_; clear hF; intro a hF
       refine Vp hF (.bool (decide (cutF s j < 0))) ?_; clear hF; intro a hF
       refine Vp hF (.bool (decide (cutF s j < 0))) ?_; clear hF; intro a hF
       replace hF := hF.know (d := 125) (v' := .bool false) (by kernel_rfl) (congrArg Value.bool (decide_eq_false (show ¬ (cutF s j < 0) from (by obtain rfl : j = 0 := (by omega); omega))))
       refine Lo hF ?_; clear hF; intro a hF
       refine Lo hF ?_; clear hF; intro a hF
       refine Lo hF ?_; clear hF; intro a hF
       refine Vp hF (.bool false) ?_; clear hF; intro a hF
       refine Vp hF (.bool false) ?_; clear hF; intro a hF
       refine Vp hF (.int .i64 (cutF s j)) ?_; clear hF; intro a hF
       refine Vp hF (.bool (decide (cutF s j ≥ 0))) ?_; clear hF; intro a hF
       refine Vp hF (.bool (decide (cutF s j ≥ 0))) ?_; clear hF; intro a hF
       replace hF := hF.know (d := 133) (v' := .bool true) (by kernel_rfl) (congrArg Value.bool (decide_eq_true (show cutF s j ≥ 0 from (by obtain rfl : j = 0 := (by omega); omega))))
       refine Vp hF (.slice qa acca.length qca) ?_; clear hF; intro a hF
       refine Vp hF (.int .i64 ((acca.length : Int))) ?_; clear hF; intro a hF
       refine Vp hF (.slice qb accb.length qcb) ?_; clear hF; intro a hF
       refine Vp hF (.int .i64 ((accb.length : Int))) ?_; clear hF; intro a hF
       refine Vr hF (.int .i64 ((acca.length : Int) + (accb.length : Int))) (x_int (x := IntKind.i64.wrap ((acca.length : Int) + (accb.length : Int))) (i64In (by omega) (by omega)) (by kernel_rfl)) ?_; clear hF; intro a hF
       refine Vp hF (.bool (decide ((acca.length : Int) + (accb.length : Int) > 14))) ?_; clear hF; intro a hF
       refine Vp hF (.bool (decide ((acca.length : Int) + (accb.length : Int) > 14))) ?_; clear hF; intro a hF
       refine Vp hF (.bool (decide ((acca.length : Int) + (accb.length : Int) > 14))) ?_; clear hF; intro a hF
       refine L_nil ?_
       refine hK44 _ _ ?_
       by_cases q14 : (acca.length : Int) + (accb.length : Int) > 14
       ·
        replace hF := hF.know (d := 141) (v' := .bool true) (by kernel_rfl) (congrArg Value.bool (decide_eq_true q14))
        refine cond_t hF (by kernel_rfl) (by kernel_rfl) ?_
        refine wp_seq_k fun K45 hK45 => ?_
        refine wp_region_lit ?_
        refine Vp hF (.agg zFParseT) ?_; clear hF; intro a hF
        obtain ⟨W14, hst, hO1⟩ := run_storeAt (P := Tryz.prog) (k := 17) (T := 33) (off := 0) (v := .agg zFParseT) (cs := zFParseT) (cs' := zFParseT) hO (by kernel_rfl) (by kernel_rfl) (by kernel_rfl) (Nat.le_of_ble_eq_true (by kernel_rfl)) (by kernel_rfl) (.tail (.tail (.tail (.tail (.head _)))))
        refine L_skip hF (by kernel_rfl) (by kernel_rfl) (x_store (p := .pointer (some ⟨b1, 0, none⟩)) (v := .agg zFParseT) rfl (by kernel_rfl) (by kernel_rfl) hst) (by kernel_rfl) ?_
        clear hst hF; intro a hF; replace hO := hO1; clear hO1
        refine Vp hF (.bool false) ?_; clear hF; intro a hF
        refine L_nil ?_
        refine hK45 _ _ ?_
        refine wp_ret ?_
        refine then_ret ?_
        refine ret2 hF (v := ipV noIp) (u := .bool false) rfl (resC (ad := ⟨b1, 0, none⟩) (by kernel_rfl) (run_loadA (k := 17) (by kernel_rfl) (by kernel_rfl) (hO.blk (List.mem_cons_of_mem _ (List.mem_cons_of_mem _ (List.mem_cons_of_mem _ (List.mem_cons_of_mem _ List.mem_cons_self))))) (by kernel_rfl) (by kernel_rfl))) (resT (by kernel_rfl)) (by refine ⟨?_, hO.nil⟩; (obtain rfl : j = 0 := (by omega); first | (rw [parS_bad1 hc hcut (piece_bad (i := ia) (by omega) (by omega) (by assumption))]; rfl) | (rw [parS_bad2 hc hcut (piece_bad (i := ib) (by omega) (by omega) (by assumption))]; rfl) | (rw [parS_len hc hcut (by first | exact piece_ok (i := ia) (by omega) (by omega) hA | exact piece_nil (by omega)) (by first | exact piece_ok (i := ib) (by omega) (by omega) hB | exact piece_nil (by omega)) (by (try simp only [List.length_nil]); omega)]; rfl) | (rw [parS_ok hc hcut (by first | exact piece_ok (i := ia) (by omega) (by omega) hA | exact piece_nil (by omega)) (by first | exact piece_ok (i := ib) (by omega) (by omega) hB | exact piece_nil (by omega)) (by (try simp only [List.length_nil]); omega) hZ.1 (by have hq := congrArg List.length hZ.1; have hz2 := hZ.2; simp only [List.length_append, List.length_replicate, List.length_nil] at hq hz2 ⊢; omega)]; rfl))) .ret (.inl rfl)
       ·
        replace hF := hF.know (d := 141) (v' := .bool false) (by kernel_rfl) (congrArg Value.bool (decide_eq_false q14))
        refine cond_f hF (by kernel_rfl) (by kernel_rfl) ?_
        refine wp_skip ?_
        refine hK43 _ _ ?_
        refine wp_seq_k fun K46 hK46 => ?_
        refine wp_block ?_
        replace hO := hO.front (.tail (.tail (.head _)))
        refine loopX (τ := Nat × Option Addr × Nat × List UInt8) (fun (xτ : Nat × Option Addr × Nat × List UInt8) a Wx => (fun (k : Nat) (zq : Option Addr) (zqc : Nat) (zc : List UInt8) => (zc = acca ++ List.replicate k 0 ∧ acca.length + k + accb.length ≤ 16) ∧ Fr 160 a [(2, .pointer (some ⟨b1, 0, none⟩)), (10, .slice zq zc.length zqc), (11, .slice qb accb.length qcb)] ∧ Own W noX [rowL u8L 1 5 zq zqc zc, rowL u8L 1 5 qb qcb accb, rowL strL 1 9 q11 qc2 (splitOn (s.extract ((cutF s j + 2).toNat) s.size) 58), rowL strL 1 9 q7 qc1 (splitOn (s.extract 0 ((cutF s j).toNat)) 58), .blk b1 (.cells zFParseT 33 (0, 0))] Wx) (xτ.1) (xτ.2.1) (xτ.2.2.1) (xτ.2.2.2)) (fun (xτ : Nat × Option Addr × Nat × List UInt8) => (fun (k : Nat) (zq : Option Addr) (zqc : Nat) (zc : List UInt8) => 16 - k) (xτ.1) (xτ.2.1) (xτ.2.2.1) (xτ.2.2.2)) ((0, qa, qca, acca)) ⟨⟨by simp, by (try simp only [List.length_nil]); omega⟩, ?_, ?_⟩ ?_
        · exact hF.restrict ⟨(by kernel_rfl), (congrArg some (by first | rfl | exact congrArg (Value.int _) (by omega) | simp)), (by kernel_rfl), trivial⟩
        · exact hO.sub (.cons_cons _ (.cons_cons _ (.cons_cons _ (.cons_cons _ (.cons_cons _ (List.nil_sublist _))))))
        clear hF hO; rintro ⟨k, zq, zqc, zc⟩ a Wl5 ⟨hZ, hF, hO⟩ KhK_5 hK_5
        try dsimp only at hZ
        refine wp_seq_k fun K47 hK47 => ?_
        refine wp_seq_k fun K48 hK48 => ?_
        refine wp_region_lit ?_
        refine Vp hF (.slice zq zc.length zqc) ?_; clear hF; intro a hF
        refine Vp hF (.int .i64 ((zc.length : Int))) ?_; clear hF; intro a hF
        refine Vp hF (.slice qb accb.length qcb) ?_; clear hF; intro a hF
        refine Vp hF (.int .i64 ((accb.length : Int))) ?_; clear hF; intro a hF
        refine Vr hF (.int .i64 ((zc.length : Int) + (accb.length : Int))) (x_int (x := IntKind.i64.wrap ((zc.length : Int) + (accb.length : Int))) (i64In (by (first | omega | (have hcb := cutF_bd s j; omega) | (obtain rfl : j = 0 := (by omega); have hcb := cutF_bd s 0; omega) | ((try simp only [maxLen] at *); omega) | (have hq := congrArg List.length hZ.1; (try simp only [List.length_append, List.length_replicate, List.length_nil] at *); (try simp only [maxLen] at *); omega))) (by (first | omega | (have hcb := cutF_bd s j; omega) | (obtain rfl : j = 0 := (by omega); have hcb := cutF_bd s 0; omega) | ((try simp only [maxLen] at *); omega) | (have hq := congrArg List.length hZ.1; (try simp only [List.length_append, List.length_replicate, List.length_nil] at *); (try simp only [maxLen] at *); omega)))) (by kernel_rfl)) ?_; clear hF; intro a hF
        refine Vp hF (.bool (decide ((zc.length : Int) + (accb.length : Int) < 16))) ?_; clear hF; intro a hF
        refine L_nil ?_
        refine hK48 _ _ ?_
        by_cases q15 : (zc.length : Int) + (accb.length : Int) < 16
        ·
         replace hF := hF.know (d := 148) (v' := .bool true) (by kernel_rfl) (congrArg Value.bool (decide_eq_true q15))
         refine cond_t hF (by kernel_rfl) (by kernel_rfl) ?_
         refine wp_skip ?_
         refine hK47 _ _ ?_
         refine wp_block ?_
         refine wp_region_lit ?_
         refine Vp hF (.slice zq zc.length zqc) ?_; clear hF; intro a hF
         refine L_new hF hO (by kernel_rfl) (by kernel_rfl) (vf := fun b => .slice (some ⟨b, 0, none⟩) 1 1) (ob := .cells #[.int .u8 0] 5) (by kernel_rfl) (by kernel_rfl) ?_
         clear hF hO; intro b6 W15 a hO hF
         obtain ⟨p3, cap3, W16, hap, hO1, -⟩ := run_append_row (P := Tryz.prog) (ty := 46) (t := 46) (z := .int .u8 0) (k := 1) (bytes := 1) (q := some ⟨b6, 0, none⟩) (ys := ([0] : List UInt8)) (cq := 1) hO (.tail (.head _)) (by kernel_rfl) (by kernel_rfl) (by kernel_rfl) (by decide) (fun _ => rfl) (fun _ => rfl) (SlAt.blk hO List.mem_cons_self (by kernel_rfl)) (by (try simp only [List.length_append, List.length_take, List.length_drop, List.length_cons, List.length_nil, maxLen]); omega) (by (try simp only [List.length_append, List.length_take, List.length_drop, List.length_cons, List.length_nil, maxLen]); omega)
         refine L_valW hF (by kernel_rfl) (by kernel_rfl) (x_app hap rfl (by kernel_rfl) (by kernel_rfl) rfl) (by kernel_rfl) ?_
         clear hap hF; intro a hF; replace hO := hO1; clear hO1
         refine Vp hF (.slice p3 ((zc ++ ([0] : List UInt8)).length) cap3) ?_; clear hF; intro a hF
         refine L_nil ?_
         refine block_normal ?_
         refine hK_5 ((k + 1, p3, cap3, zc ++ ([0] : List UInt8))) _ _ ((by have hq := congrArg List.length hZ.1; simp only [List.length_append, List.length_replicate, List.length_nil] at hq; dsimp only; omega)) ⟨(by have hq := congrArg List.length hZ.1; simp only [List.length_append, List.length_replicate, List.length_nil] at hq; refine ⟨fill_round hZ.1, ?_⟩; dsimp only; (try simp only [List.length_nil]); omega), ?_, ?_⟩
         · exact hF.restrict ⟨(by kernel_rfl), (congrArg some (by first | rfl | exact congrArg (Value.int _) (by omega))), (by kernel_rfl), trivial⟩
         · exact hO.sub (.cons_cons _ (.cons _ (.cons_cons _ (.cons_cons _ (.cons_cons _ (.cons_cons _ (List.nil_sublist _)))))))
        ·
         replace hF := hF.know (d := 148) (v' := .bool false) (by kernel_rfl) (congrArg Value.bool (decide_eq_false q15))
         refine cond_f hF (by kernel_rfl) (by kernel_rfl) ?_
         refine wp_exit ?_
         refine then_exit ?_
         refine then_exit ?_
         refine inBlock_hit ?_
         refine hK46 _ _ ?_
         refine wp_seq_k fun K49 hK49 => ?_
         refine wp_region_lit ?_
         refine Vp hF (.agg zTParseT) ?_; clear hF; intro a hF
         refine L_new hF hO (by kernel_rfl) (by kernel_rfl) (vf := fun b => .pointer (some ⟨b, 0, none⟩)) (ob := .cells zFParseT 33) (by kernel_rfl) (by kernel_rfl) ?_
         clear hF hO; intro b7 W17 a hO hF
         obtain ⟨W18, hst, hO1⟩ := run_storeAt (P := Tryz.prog) (k := 17) (T := 33) (off := 0) (v := .agg zTParseT) (cs := zFParseT) (cs' := zTParseT) hO (by kernel_rfl) (by kernel_rfl) (by kernel_rfl) (Nat.le_of_ble_eq_true (by kernel_rfl)) (by kernel_rfl) (.head _)
         refine L_skip hF (by kernel_rfl) (by kernel_rfl) (x_store (p := .pointer (some ⟨b7, 0, none⟩)) (v := .agg zTParseT) rfl (by kernel_rfl) (by kernel_rfl) hst) (by kernel_rfl) ?_
         clear hst hF; intro a hF; replace hO := hO1; clear hO1
         refine L_nil ?_
         refine hK49 _ _ ?_
         refine wp_seq_k fun K50 hK50 => ?_
         refine A_start (fun Wx => Own W noX [rowL u8L 1 5 qb qcb accb, rowL strL 1 9 q11 qc2 (splitOn (s.extract ((cutF s j + 2).toNat) s.size) 58), rowL strL 1 9 q7 qc1 (splitOn (s.extract 0 ((cutF s j).toNat)) 58)] Wx) (by kernel_rfl) ?_
         replace hO := hO.drewN 1
         generalize hWd : ({ W18 with drawn := W18.drawn + 1 } : World) = W18_d at hO ⊢; clear hWd
         have hS := hO.sub (.cons _ (.cons _ (.cons_cons _ (.cons_cons _ (.cons_cons _ (List.nil_sublist _))))))
         refine Tk 0 rfl hF (.pointer (some ⟨b7, 1, none⟩)) (fun Wx _ => by kernel_rfl) hS ?_; clear hF; intro a hF
         refine Tk 1 rfl hF (.slice (some ⟨b7, 1, none⟩) 16 16) (fun Wx _ => (x_slArr (b := b7) (off := 1) (n := 16) (elem := 5) (lo := 0) (hi := 16) rfl (by kernel_rfl) (by kernel_rfl) (by kernel_rfl) rfl rfl (by omega) (by omega) (by omega) (by kernel_rfl) (by first | rfl | omega) (by first | rfl | omega))) hS ?_; clear hF; intro a hF
         refine Tk 2 rfl hF (.slice zq zc.length zqc) (fun Wx _ => by kernel_rfl) hS ?_; clear hF; intro a hF
         refine Tk 3 rfl hF (.slice qb accb.length qcb) (fun Wx _ => by kernel_rfl) hS ?_; clear hF; intro a hF
         refine A_one (i := 4) (listed' := #[true, true, true, true, true, false]) (by kernel_rfl) rfl (by kernel_rfl) ?_
         obtain ⟨p4, cap4, W19, hap, hO1, -⟩ := run_append_row (P := Tryz.prog) (ty := 46) (t := 46) (z := .int .u8 0) (k := 1) (bytes := 1) (q := qb) (ys := accb) (cq := qcb) hO (.tail (.head _)) (by kernel_rfl) (by kernel_rfl) (by kernel_rfl) (by decide) (fun _ => rfl) (fun _ => rfl) (hO.row (List.mem_cons_of_mem _ (List.mem_cons_of_mem _ List.mem_cons_self))) (by (try simp only [List.length_append, List.length_take, List.length_drop, List.length_cons, List.length_nil, maxLen]); (first | omega | (have hcb := cutF_bd s j; omega) | (obtain rfl : j = 0 := (by omega); have hcb := cutF_bd s 0; omega) | ((try simp only [maxLen] at *); omega) | (have hq := congrArg List.length hZ.1; (try simp only [List.length_append, List.length_replicate, List.length_nil] at *); (try simp only [maxLen] at *); omega))) (by (try simp only [List.length_append, List.length_take, List.length_drop, List.length_cons, List.length_nil, maxLen]); (first | omega | (have hcb := cutF_bd s j; omega) | (obtain rfl : j = 0 := (by omega); have hcb := cutF_bd s 0; omega) | ((try simp only [maxLen] at *); omega) | (have hq := congrArg List.length hZ.1; (try simp only [List.length_append, List.length_replicate, List.length_nil] at *); (try simp only [maxLen] at *); omega)))
         refine OpK.valW hF (by kernel_rfl) (by kernel_rfl) (x_app hap rfl (by kernel_rfl) (by kernel_rfl) rfl) (by kernel_rfl) ?_
         clear hap hF; intro a hF; replace hO := hO1; clear hO1
         refine ⟨hO.sub (.cons _ (.cons _ (.cons_cons _ (.cons_cons _ (.cons_cons _ (List.nil_sublist _)))))), ?_⟩
         refine A_one (i := 5) (listed' := #[true, true, true, true, true, true]) (by kernel_rfl) rfl (by kernel_rfl) ?_
         replace hO := hO.reblk (cs := zTParseT) (cs' := (ipL sixIp).toArray) (by kernel_rfl) (.tail (.head _))
         obtain ⟨W20, hst, hO1⟩ := run_copy_ip (P := Tryz.prog) (e := 5) (t := 46) (ty := 3) (j := 0) (n := 16) (c := 16) (off := 1) (cq := cap4) (q := p4) (A := zc ++ accb) hO (.tail (.head _)) (by kernel_rfl) (by kernel_rfl) (hO.row List.mem_cons_self) (by (first | omega | (have hcb := cutF_bd s j; omega) | (obtain rfl : j = 0 := (by omega); have hcb := cutF_bd s 0; omega) | ((try simp only [maxLen] at *); omega) | (have hq := congrArg List.length hZ.1; (try simp only [List.length_append, List.length_replicate, List.length_nil] at *); (try simp only [maxLen] at *); omega))) (by (first | omega | (have hcb := cutF_bd s j; omega) | (obtain rfl : j = 0 := (by omega); have hcb := cutF_bd s 0; omega) | ((try simp only [maxLen] at *); omega) | (have hq := congrArg List.length hZ.1; (try simp only [List.length_append, List.length_replicate, List.length_nil] at *); (try simp only [maxLen] at *); omega))) (by (try unfold arrOff); intros; (try split) <;> (first | omega | (have hcb := cutF_bd s j; omega) | (obtain rfl : j = 0 := (by omega); have hcb := cutF_bd s 0; omega) | ((try simp only [maxLen] at *); omega) | (have hq := congrArg List.length hZ.1; (try simp only [List.length_append, List.length_replicate, List.length_nil] at *); (try simp only [maxLen] at *); omega)))
         refine OpK.valW hF (by kernel_rfl) (by kernel_rfl) (x_copy hst rfl (by kernel_rfl) (by kernel_rfl) rfl) (by kernel_rfl) ?_
         clear hst hF; intro a hF; replace hO := hO1; clear hO1
         refine ⟨hO.sub (.cons _ (.cons _ (.cons_cons _ (.cons_cons _ (.cons_cons _ (List.nil_sublist _)))))), ?_⟩
         refine A_done (by kernel_rfl) ?_
         refine hK50 _ _ ?_
         refine wp_seq_k fun K51 hK51 => ?_
         refine wp_region_lit ?_
         refine Vr hF (ipV (sixIp.cpy 0 (zc ++ accb))) (x_load (p := .pointer (some ⟨b7, 0, none⟩)) rfl (by kernel_rfl) (run_loadA (k := 17) (by kernel_rfl) (by kernel_rfl) (hO.blk (List.mem_cons_of_mem _ List.mem_cons_self)) (by kernel_rfl) (by kernel_rfl))) ?_; clear hF; intro a hF
         obtain ⟨W21, hst, hO1⟩ := run_storeAt (P := Tryz.prog) (k := 17) (T := 33) (off := 0) (v := ipV (sixIp.cpy 0 (zc ++ accb))) (cs := zFParseT) (cs' := (ipL (sixIp.cpy 0 (zc ++ accb))).toArray) hO (by kernel_rfl) (by kernel_rfl) (by kernel_rfl) (Nat.le_of_ble_eq_true (by kernel_rfl)) (by kernel_rfl) (.tail (.tail (.tail (.tail (.tail (.head _))))))
         refine L_skip hF (by kernel_rfl) (by kernel_rfl) (x_store (p := .pointer (some ⟨b1, 0, none⟩)) (v := ipV (sixIp.cpy 0 (zc ++ accb))) rfl (by kernel_rfl) (by kernel_rfl) hst) (by kernel_rfl) ?_
         clear hst hF; intro a hF; replace hO := hO1; clear hO1
         refine Vp hF (.bool true) ?_; clear hF; intro a hF
         refine L_nil ?_
         refine hK51 _ _ ?_
         refine wp_ret ?_
         refine ret2 hF (v := ipV (sixIp.cpy 0 (zc ++ accb))) (u := .bool true) rfl (resC (ad := ⟨b1, 0, none⟩) (by kernel_rfl) (run_loadA (k := 17) (by kernel_rfl) (by kernel_rfl) (hO.blk (List.mem_cons_of_mem _ (List.mem_cons_of_mem _ (List.mem_cons_of_mem _ (List.mem_cons_of_mem _ (List.mem_cons_of_mem _ List.mem_cons_self)))))) (by kernel_rfl) (by kernel_rfl))) (resT (by kernel_rfl)) (by refine ⟨?_, hO.nil⟩; (obtain rfl : j = 0 := (by omega); first | (rw [parS_bad1 hc hcut (piece_bad (i := ia) (by omega) (by omega) (by assumption))]; rfl) | (rw [parS_bad2 hc hcut (piece_bad (i := ib) (by omega) (by omega) (by assumption))]; rfl) | (rw [parS_len hc hcut (by first | exact piece_ok (i := ia) (by omega) (by omega) hA | exact piece_nil (by omega)) (by first | exact piece_ok (i := ib) (by omega) (by omega) hB | exact piece_nil (by omega)) (by (try simp only [List.length_nil]); omega)]; rfl) | (rw [parS_ok hc hcut (by first | exact piece_ok (i := ia) (by omega) (by omega) hA | exact piece_nil (by omega)) (by first | exact piece_ok (i := ib) (by omega) (by omega) hB | exact piece_nil (by omega)) (by (try simp only [List.length_nil]); omega) hZ.1 (by have hq := congrArg List.length hZ.1; have hz2 := hZ.2; simp only [List.length_append, List.length_replicate, List.length_nil] at hq hz2 ⊢; omega)]; rfl))) .ret (.inl rfl)
     ·
      replace hF := hF.know (d := 100) (v' := .bool false) (by kernel_rfl) (congrArg Value.bool (decide_eq_false q10))
      refine cond_f hF (by kernel_rfl) (by kernel_rfl) ?_
      refine wp_skip ?_
      refine hK32 _ _ ?_
      refine wp_seq_k fun K52 hK52 => ?_
      refine wp_seq_k fun K53 hK53 => ?_
      refine wp_region_lit ?_
      refine Vp hF (.int .i64 (cutF s j)) ?_; clear hF; intro a hF
      refine Vp hF (.bool (decide (cutF s j < 0))) ?_; clear hF; intro a hF
      refine Vp hF (.bool (decide (cutF s j < 0))) ?_; clear hF; intro a hF
      replace hF := hF.know (d := 125) (v' := .bool false) (by kernel_rfl) (congrArg Value.bool (decide_eq_false (show ¬ (cutF s j < 0) from (by obtain rfl : j = 0 := (by omega); omega))))
      refine Lo hF ?_; clear hF; intro a hF
      refine Lo hF ?_; clear hF; intro a hF
      refine Lo hF ?_; clear hF; intro a hF
      refine Vp hF (.bool false) ?_; clear hF; intro a hF
      refine Vp hF (.bool false) ?_; clear hF; intro a hF
      refine Vp hF (.int .i64 (cutF s j)) ?_; clear hF; intro a hF
      refine Vp hF (.bool (decide (cutF s j ≥ 0))) ?_; clear hF; intro a hF
      refine Vp hF (.bool (decide (cutF s j ≥ 0))) ?_; clear hF; intro a hF
      replace hF := hF.know (d := 133) (v' := .bool true) (by kernel_rfl) (congrArg Value.bool (decide_eq_true (show cutF s j ≥ 0 from (by obtain rfl : j = 0 := (by omega); omega))))
      refine Vp hF (.slice qa acca.length qca) ?_; clear hF; intro a hF
      refine Vp hF (.int .i64 ((acca.length : Int))) ?_; clear hF; intro a hF
      refine Vp hF (.slice (some ⟨b3, 0, none⟩) 0 0) ?_; clear hF; intro a hF
      refine Vp hF (.int .i64 0) ?_; clear hF; intro a hF
      refine Vr hF (.int .i64 ((acca.length : Int) + 0)) (x_int (x := IntKind.i64.wrap ((acca.length : Int) + 0)) (i64In (by omega) (by omega)) (by kernel_rfl)) ?_; clear hF; intro a hF
      refine Vp hF (.bool (decide ((acca.length : Int) + 0 > 14))) ?_; clear hF; intro a hF
      refine Vp hF (.bool (decide ((acca.length : Int) + 0 > 14))) ?_; clear hF; intro a hF
      refine Vp hF (.bool (decide ((acca.length : Int) + 0 > 14))) ?_; clear hF; intro a hF
      refine L_nil ?_
      refine hK53 _ _ ?_
      by_cases q16 : (acca.length : Int) + 0 > 14
      ·
       replace hF := hF.know (d := 141) (v' := .bool true) (by kernel_rfl) (congrArg Value.bool (decide_eq_true q16))
       refine cond_t hF (by kernel_rfl) (by kernel_rfl) ?_
       refine wp_seq_k fun K54 hK54 => ?_
       refine wp_region_lit ?_
       refine Vp hF (.agg zFParseT) ?_; clear hF; intro a hF
       obtain ⟨W22, hst, hO1⟩ := run_storeAt (P := Tryz.prog) (k := 17) (T := 33) (off := 0) (v := .agg zFParseT) (cs := zFParseT) (cs' := zFParseT) hO (by kernel_rfl) (by kernel_rfl) (by kernel_rfl) (Nat.le_of_ble_eq_true (by kernel_rfl)) (by kernel_rfl) (.tail (.tail (.tail (.head _))))
       refine L_skip hF (by kernel_rfl) (by kernel_rfl) (x_store (p := .pointer (some ⟨b1, 0, none⟩)) (v := .agg zFParseT) rfl (by kernel_rfl) (by kernel_rfl) hst) (by kernel_rfl) ?_
       clear hst hF; intro a hF; replace hO := hO1; clear hO1
       refine Vp hF (.bool false) ?_; clear hF; intro a hF
       refine L_nil ?_
       refine hK54 _ _ ?_
       refine wp_ret ?_
       refine then_ret ?_
       refine ret2 hF (v := ipV noIp) (u := .bool false) rfl (resC (ad := ⟨b1, 0, none⟩) (by kernel_rfl) (run_loadA (k := 17) (by kernel_rfl) (by kernel_rfl) (hO.blk (List.mem_cons_of_mem _ (List.mem_cons_of_mem _ (List.mem_cons_of_mem _ List.mem_cons_self)))) (by kernel_rfl) (by kernel_rfl))) (resT (by kernel_rfl)) (by refine ⟨?_, hO.nil⟩; (obtain rfl : j = 0 := (by omega); first | (rw [parS_bad1 hc hcut (piece_bad (i := ia) (by omega) (by omega) (by assumption))]; rfl) | (rw [parS_bad2 hc hcut (piece_bad (i := ib) (by omega) (by omega) (by assumption))]; rfl) | (rw [parS_len hc hcut (by first | exact piece_ok (i := ia) (by omega) (by omega) hA | exact piece_nil (by omega)) (by first | exact piece_ok (i := ib) (by omega) (by omega) hB | exact piece_nil (by omega)) (by (try simp only [List.length_nil]); omega)]; rfl) | (rw [parS_ok hc hcut (by first | exact piece_ok (i := ia) (by omega) (by omega) hA | exact piece_nil (by omega)) (by first | exact piece_ok (i := ib) (by omega) (by omega) hB | exact piece_nil (by omega)) (by (try simp only [List.length_nil]); omega) hZ.1 (by have hq := congrArg List.length hZ.1; have hz2 := hZ.2; simp only [List.length_append, List.length_replicate, List.length_nil] at hq hz2 ⊢; omega)]; rfl))) .ret (.inl rfl)
      ·
       replace hF := hF.know (d := 141) (v' := .bool false) (by kernel_rfl) (congrArg Value.bool (decide_eq_false q16))
       refine cond_f hF (by kernel_rfl) (by kernel_rfl) ?_
       refine wp_skip ?_
       refine hK52 _ _ ?_
       refine wp_seq_k fun K55 hK55 => ?_
       refine wp_block ?_
       refine loopX (τ := Nat × Option Addr × Nat × List UInt8) (fun (xτ : Nat × Option Addr × Nat × List UInt8) a Wx => (fun (k : Nat) (zq : Option Addr) (zqc : Nat) (zc : List UInt8) => (zc = acca ++ List.replicate k 0 ∧ acca.length + k + ([] : List UInt8).length ≤ 16) ∧ Fr 160 a [(2, .pointer (some ⟨b1, 0, none⟩)), (10, .slice zq zc.length zqc), (11, .slice (some ⟨b3, 0, none⟩) 0 0)] ∧ Own W noX [rowL u8L 1 5 zq zqc zc, rowL strL 1 9 q7 qc1 (splitOn (s.extract 0 ((cutF s j).toNat)) 58), .blk b3 (.cells #[] 5 (0, 0)), .blk b1 (.cells zFParseT 33 (0, 0))] Wx) (xτ.1) (xτ.2.1) (xτ.2.2.1) (xτ.2.2.2)) (fun (xτ : Nat × Option Addr × Nat × List UInt8) => (fun (k : Nat) (zq : Option Addr) (zqc : Nat) (zc : List UInt8) => 16 - k) (xτ.1) (xτ.2.1) (xτ.2.2.1) (xτ.2.2.2)) ((0, qa, qca, acca)) ⟨⟨by simp, by (try simp only [List.length_nil]); omega⟩, ?_, ?_⟩ ?_
       · exact hF.restrict ⟨(by kernel_rfl), (congrArg some (by first | rfl | exact congrArg (Value.int _) (by omega) | simp)), (by kernel_rfl), trivial⟩
       · exact hO.sub (.cons_cons _ (.cons_cons _ (.cons_cons _ (.cons_cons _ (List.nil_sublist _)))))
       clear hF hO; rintro ⟨k, zq, zqc, zc⟩ a Wl6 ⟨hZ, hF, hO⟩ KhK_6 hK_6
       try dsimp only at hZ
       refine wp_seq_k fun K56 hK56 => ?_
       refine wp_seq_k fun K57 hK57 => ?_
       refine wp_region_lit ?_
       refine Vp hF (.slice zq zc.length zqc) ?_; clear hF; intro a hF
       refine Vp hF (.int .i64 ((zc.length : Int))) ?_; clear hF; intro a hF
       refine Vp hF (.slice (some ⟨b3, 0, none⟩) 0 0) ?_; clear hF; intro a hF
       refine Vp hF (.int .i64 0) ?_; clear hF; intro a hF
       refine Vr hF (.int .i64 ((zc.length : Int) + 0)) (x_int (x := IntKind.i64.wrap ((zc.length : Int) + 0)) (i64In (by (first | omega | (have hcb := cutF_bd s j; omega) | (obtain rfl : j = 0 := (by omega); have hcb := cutF_bd s 0; omega) | ((try simp only [maxLen] at *); omega) | (have hq := congrArg List.length hZ.1; (try simp only [List.length_append, List.length_replicate, List.length_nil] at *); (try simp only [maxLen] at *); omega))) (by (first | omega | (have hcb := cutF_bd s j; omega) | (obtain rfl : j = 0 := (by omega); have hcb := cutF_bd s 0; omega) | ((try simp only [maxLen] at *); omega) | (have hq := congrArg List.length hZ.1; (try simp only [List.length_append, List.length_replicate, List.length_nil] at *); (try simp only [maxLen] at *); omega)))) (by kernel_rfl)) ?_; clear hF; intro a hF
       refine Vp hF (.bool (decide ((zc.length : Int) + 0 < 16))) ?_; clear hF; intro a hF
       refine L_nil ?_
       refine hK57 _ _ ?_
       by_cases q17 : (zc.length : Int) + 0 < 16
       ·
        replace hF := hF.know (d := 148) (v' := .bool true) (by kernel_rfl) (congrArg Value.bool (decide_eq_true q17))
        refine cond_t hF (by kernel_rfl) (by kernel_rfl) ?_
        refine wp_skip ?_
        refine hK56 _ _ ?_
        refine wp_block ?_
        refine wp_region_lit ?_
        refine Vp hF (.slice zq zc.length zqc) ?_; clear hF; intro a hF
        refine L_new hF hO (by kernel_rfl) (by kernel_rfl) (vf := fun b => .slice (some ⟨b, 0, none⟩) 1 1) (ob := .cells #[.int .u8 0] 5) (by kernel_rfl) (by kernel_rfl) ?_
        clear hF hO; intro b8 W23 a hO hF
        obtain ⟨p5, cap5, W24, hap, hO1, -⟩ := run_append_row (P := Tryz.prog) (ty := 46) (t := 46) (z := .int .u8 0) (k := 1) (bytes := 1) (q := some ⟨b8, 0, none⟩) (ys := ([0] : List UInt8)) (cq := 1) hO (.tail (.head _)) (by kernel_rfl) (by kernel_rfl) (by kernel_rfl) (by decide) (fun _ => rfl) (fun _ => rfl) (SlAt.blk hO List.mem_cons_self (by kernel_rfl)) (by (try simp only [List.length_append, List.length_take, List.length_drop, List.length_cons, List.length_nil, maxLen]); omega) (by (try simp only [List.length_append, List.length_take, List.length_drop, List.length_cons, List.length_nil, maxLen]); omega)
        refine L_valW hF (by kernel_rfl) (by kernel_rfl) (x_app hap rfl (by kernel_rfl) (by kernel_rfl) rfl) (by kernel_rfl) ?_
        clear hap hF; intro a hF; replace hO := hO1; clear hO1
        refine Vp hF (.slice p5 ((zc ++ ([0] : List UInt8)).length) cap5) ?_; clear hF; intro a hF
        refine L_nil ?_
        refine block_normal ?_
        refine hK_6 ((k + 1, p5, cap5, zc ++ ([0] : List UInt8))) _ _ ((by have hq := congrArg List.length hZ.1; simp only [List.length_append, List.length_replicate, List.length_nil] at hq; dsimp only; omega)) ⟨(by have hq := congrArg List.length hZ.1; simp only [List.length_append, List.length_replicate, List.length_nil] at hq; refine ⟨fill_round hZ.1, ?_⟩; dsimp only; (try simp only [List.length_nil]); omega), ?_, ?_⟩
        · exact hF.restrict ⟨(by kernel_rfl), (congrArg some (by first | rfl | exact congrArg (Value.int _) (by omega))), (by kernel_rfl), trivial⟩
        · exact hO.sub (.cons_cons _ (.cons _ (.cons_cons _ (.cons_cons _ (.cons_cons _ (List.nil_sublist _))))))
       ·
        replace hF := hF.know (d := 148) (v' := .bool false) (by kernel_rfl) (congrArg Value.bool (decide_eq_false q17))
        refine cond_f hF (by kernel_rfl) (by kernel_rfl) ?_
        refine wp_exit ?_
        refine then_exit ?_
        refine then_exit ?_
        refine inBlock_hit ?_
        refine hK55 _ _ ?_
        refine wp_seq_k fun K58 hK58 => ?_
        refine wp_region_lit ?_
        refine Vp hF (.agg zTParseT) ?_; clear hF; intro a hF
        refine L_new hF hO (by kernel_rfl) (by kernel_rfl) (vf := fun b => .pointer (some ⟨b, 0, none⟩)) (ob := .cells zFParseT 33) (by kernel_rfl) (by kernel_rfl) ?_
        clear hF hO; intro b9 W25 a hO hF
        obtain ⟨W26, hst, hO1⟩ := run_storeAt (P := Tryz.prog) (k := 17) (T := 33) (off := 0) (v := .agg zTParseT) (cs := zFParseT) (cs' := zTParseT) hO (by kernel_rfl) (by kernel_rfl) (by kernel_rfl) (Nat.le_of_ble_eq_true (by kernel_rfl)) (by kernel_rfl) (.head _)
        refine L_skip hF (by kernel_rfl) (by kernel_rfl) (x_store (p := .pointer (some ⟨b9, 0, none⟩)) (v := .agg zTParseT) rfl (by kernel_rfl) (by kernel_rfl) hst) (by kernel_rfl) ?_
        clear hst hF; intro a hF; replace hO := hO1; clear hO1
        refine L_nil ?_
        refine hK58 _ _ ?_
        refine wp_seq_k fun K59 hK59 => ?_
        refine A_start (fun Wx => Own W noX [rowL strL 1 9 q7 qc1 (splitOn (s.extract 0 ((cutF s j).toNat)) 58), .blk b3 (.cells #[] 5 (0, 0))] Wx) (by kernel_rfl) ?_
        replace hO := hO.drewN 1
        generalize hWd : ({ W26 with drawn := W26.drawn + 1 } : World) = W26_d at hO ⊢; clear hWd
        have hS := hO.sub (.cons _ (.cons _ (.cons_cons _ (.cons_cons _ (List.nil_sublist _)))))
        refine Tk 0 rfl hF (.pointer (some ⟨b9, 1, none⟩)) (fun Wx _ => by kernel_rfl) hS ?_; clear hF; intro a hF
        refine Tk 1 rfl hF (.slice (some ⟨b9, 1, none⟩) 16 16) (fun Wx _ => (x_slArr (b := b9) (off := 1) (n := 16) (elem := 5) (lo := 0) (hi := 16) rfl (by kernel_rfl) (by kernel_rfl) (by kernel_rfl) rfl rfl (by omega) (by omega) (by omega) (by kernel_rfl) (by first | rfl | omega) (by first | rfl | omega))) hS ?_; clear hF; intro a hF
        refine Tk 2 rfl hF (.slice zq zc.length zqc) (fun Wx _ => by kernel_rfl) hS ?_; clear hF; intro a hF
        refine Tk 3 rfl hF (.slice (some ⟨b3, 0, none⟩) 0 0) (fun Wx _ => by kernel_rfl) hS ?_; clear hF; intro a hF
        refine A_one (i := 4) (listed' := #[true, true, true, true, true, false]) (by kernel_rfl) rfl (by kernel_rfl) ?_
        obtain ⟨p6, cap6, W27, hap, hO1, -⟩ := run_append_row (P := Tryz.prog) (ty := 46) (t := 46) (z := .int .u8 0) (k := 1) (bytes := 1) (q := some ⟨b3, 0, none⟩) (ys := ([] : List UInt8)) (cq := 0) hO (.tail (.head _)) (by kernel_rfl) (by kernel_rfl) (by kernel_rfl) (by decide) (fun _ => rfl) (fun _ => rfl) (SlAt.blk hO (List.mem_cons_of_mem _ (List.mem_cons_of_mem _ (List.mem_cons_of_mem _ List.mem_cons_self))) (by kernel_rfl)) (by (try simp only [List.length_append, List.length_take, List.length_drop, List.length_cons, List.length_nil, maxLen]); (first | omega | (have hcb := cutF_bd s j; omega) | (obtain rfl : j = 0 := (by omega); have hcb := cutF_bd s 0; omega) | ((try simp only [maxLen] at *); omega) | (have hq := congrArg List.length hZ.1; (try simp only [List.length_append, List.length_replicate, List.length_nil] at *); (try simp only [maxLen] at *); omega))) (by (try simp only [List.length_append, List.length_take, List.length_drop, List.length_cons, List.length_nil, maxLen]); (first | omega | (have hcb := cutF_bd s j; omega) | (obtain rfl : j = 0 := (by omega); have hcb := cutF_bd s 0; omega) | ((try simp only [maxLen] at *); omega) | (have hq := congrArg List.length hZ.1; (try simp only [List.length_append, List.length_replicate, List.length_nil] at *); (try simp only [maxLen] at *); omega)))
        refine OpK.valW hF (by kernel_rfl) (by kernel_rfl) (x_app hap rfl (by kernel_rfl) (by kernel_rfl) rfl) (by kernel_rfl) ?_
        clear hap hF; intro a hF; replace hO := hO1; clear hO1
        refine ⟨hO.sub (.cons _ (.cons _ (.cons_cons _ (.cons_cons _ (List.nil_sublist _))))), ?_⟩
        refine A_one (i := 5) (listed' := #[true, true, true, true, true, true]) (by kernel_rfl) rfl (by kernel_rfl) ?_
        replace hO := hO.reblk (cs := zTParseT) (cs' := (ipL sixIp).toArray) (by kernel_rfl) (.tail (.head _))
        obtain ⟨W28, hst, hO1⟩ := run_copy_ip (P := Tryz.prog) (e := 5) (t := 46) (ty := 3) (j := 0) (n := 16) (c := 16) (off := 1) (cq := cap6) (q := p6) (A := zc ++ ([] : List UInt8)) hO (.tail (.head _)) (by kernel_rfl) (by kernel_rfl) (hO.row List.mem_cons_self) (by (first | omega | (have hcb := cutF_bd s j; omega) | (obtain rfl : j = 0 := (by omega); have hcb := cutF_bd s 0; omega) | ((try simp only [maxLen] at *); omega) | (have hq := congrArg List.length hZ.1; (try simp only [List.length_append, List.length_replicate, List.length_nil] at *); (try simp only [maxLen] at *); omega))) (by (first | omega | (have hcb := cutF_bd s j; omega) | (obtain rfl : j = 0 := (by omega); have hcb := cutF_bd s 0; omega) | ((try simp only [maxLen] at *); omega) | (have hq := congrArg List.length hZ.1; (try simp only [List.length_append, List.length_replicate, List.length_nil] at *); (try simp only [maxLen] at *); omega))) (by (try unfold arrOff); intros; (try split) <;> (first | omega | (have hcb := cutF_bd s j; omega) | (obtain rfl : j = 0 := (by omega); have hcb := cutF_bd s 0; omega) | ((try simp only [maxLen] at *); omega) | (have hq := congrArg List.length hZ.1; (try simp only [List.length_append, List.length_replicate, List.length_nil] at *); (try simp only [maxLen] at *); omega)))
        refine OpK.valW hF (by kernel_rfl) (by kernel_rfl) (x_copy hst rfl (by kernel_rfl) (by kernel_rfl) rfl) (by kernel_rfl) ?_
        clear hst hF; intro a hF; replace hO := hO1; clear hO1
        refine ⟨hO.sub (.cons _ (.cons _ (.cons_cons _ (.cons_cons _ (List.nil_sublist _))))), ?_⟩
        refine A_done (by kernel_rfl) ?_
        refine hK59 _ _ ?_
        refine wp_seq_k fun K60 hK60 => ?_
        refine wp_region_lit ?_
        refine Vr hF (ipV (sixIp.cpy 0 (zc ++ ([] : List UInt8)))) (x_load (p := .pointer (some ⟨b9, 0, none⟩)) rfl (by kernel_rfl) (run_loadA (k := 17) (by kernel_rfl) (by kernel_rfl) (hO.blk (List.mem_cons_of_mem _ List.mem_cons_self)) (by kernel_rfl) (by kernel_rfl))) ?_; clear hF; intro a hF
        obtain ⟨W29, hst, hO1⟩ := run_storeAt (P := Tryz.prog) (k := 17) (T := 33) (off := 0) (v := ipV (sixIp.cpy 0 (zc ++ ([] : List UInt8)))) (cs := zFParseT) (cs' := (ipL (sixIp.cpy 0 (zc ++ ([] : List UInt8)))).toArray) hO (by kernel_rfl) (by kernel_rfl) (by kernel_rfl) (Nat.le_of_ble_eq_true (by kernel_rfl)) (by kernel_rfl) (.tail (.tail (.tail (.tail (.head _)))))
        refine L_skip hF (by kernel_rfl) (by kernel_rfl) (x_store (p := .pointer (some ⟨b1, 0, none⟩)) (v := ipV (sixIp.cpy 0 (zc ++ ([] : List UInt8)))) rfl (by kernel_rfl) (by kernel_rfl) hst) (by kernel_rfl) ?_
        clear hst hF; intro a hF; replace hO := hO1; clear hO1
        refine Vp hF (.bool true) ?_; clear hF; intro a hF
        refine L_nil ?_
        refine hK60 _ _ ?_
        refine wp_ret ?_
        refine ret2 hF (v := ipV (sixIp.cpy 0 (zc ++ ([] : List UInt8)))) (u := .bool true) rfl (resC (ad := ⟨b1, 0, none⟩) (by kernel_rfl) (run_loadA (k := 17) (by kernel_rfl) (by kernel_rfl) (hO.blk (List.mem_cons_of_mem _ (List.mem_cons_of_mem _ (List.mem_cons_of_mem _ (List.mem_cons_of_mem _ List.mem_cons_self))))) (by kernel_rfl) (by kernel_rfl))) (resT (by kernel_rfl)) (by refine ⟨?_, hO.nil⟩; (obtain rfl : j = 0 := (by omega); first | (rw [parS_bad1 hc hcut (piece_bad (i := ia) (by omega) (by omega) (by assumption))]; rfl) | (rw [parS_bad2 hc hcut (piece_bad (i := ib) (by omega) (by omega) (by assumption))]; rfl) | (rw [parS_len hc hcut (by first | exact piece_ok (i := ia) (by omega) (by omega) hA | exact piece_nil (by omega)) (by first | exact piece_ok (i := ib) (by omega) (by omega) hB | exact piece_nil (by omega)) (by (try simp only [List.length_nil]); omega)]; rfl) | (rw [parS_ok hc hcut (by first | exact piece_ok (i := ia) (by omega) (by omega) hA | exact piece_nil (by omega)) (by first | exact piece_ok (i := ib) (by omega) (by omega) hB | exact piece_nil (by omega)) (by (try simp only [List.length_nil]); omega) hZ.1 (by have hq := congrArg List.length hZ.1; have hz2 := hZ.2; simp only [List.length_append, List.length_replicate, List.length_nil] at hq hz2 ⊢; omega)]; rfl))) .ret (.inl rfl)
   ·
    replace hF := hF.know (d := 75) (v' := .bool false) (by kernel_rfl) (congrArg Value.bool (decide_eq_false q6))
    refine cond_f hF (by kernel_rfl) (by kernel_rfl) ?_
    refine wp_skip ?_
    refine hK21 _ _ ?_
    refine wp_seq_k fun K61 hK61 => ?_
    refine wp_seq_k fun K62 hK62 => ?_
    refine wp_region_lit ?_
    refine Vp hF (.string (s.extract ((cutF s j + 2).toNat) s.size)) ?_; clear hF; intro a hF
    refine Vp hF (.int .i64 (((s.extract ((cutF s j + 2).toNat) s.size).size : Int))) ?_; clear hF; intro a hF
    refine Vp hF (.bool (decide (((s.extract ((cutF s j + 2).toNat) s.size).size : Int) > 0))) ?_; clear hF; intro a hF
    refine L_nil ?_
    refine hK62 _ _ ?_
    by_cases q18 : ((s.extract ((cutF s j + 2).toNat) s.size).size : Int) > 0
    ·
     replace hF := hF.know (d := 100) (v' := .bool true) (by kernel_rfl) (congrArg Value.bool (decide_eq_true q18))
     refine cond_t hF (by kernel_rfl) (by kernel_rfl) ?_
     refine wp_seq_k fun K63 hK63 => ?_
     refine wp_region_lit ?_
     refine Vp hF (.string (s.extract ((cutF s j + 2).toNat) s.size)) ?_; clear hF; intro a hF
     refine Lc hF (ref02_splitg (s.extract ((cutF s j + 2).toNat) s.size) 58 W3 (by first | omega | exact Nat.le_trans (ext_le _ _ _) hs)) ?_
     clear hF; rintro _ W30 a ⟨q19, qc3, hsl_q19, rfl, hk⟩ hF
     replace hO := hO.call1 hk; clear hk
     refine Vp hF (.int .i64 (((splitOn (s.extract ((cutF s j + 2).toNat) s.size) 58).length : Int))) ?_; clear hF; intro a hF
     refine Vp hF (.int .i64 0) ?_; clear hF; intro a hF
     refine L_nil ?_
     refine hK63 _ _ ?_
     refine wp_block ?_
     replace hO := hO.asRow (k := 1) (cap := 0) u8L ([] : List UInt8) (.tail (.head _)) (by decide) (by kernel_rfl) (by decide) (by kernel_rfl)
     replace hO := hO.front (.tail (.head _))
     refine loopX (τ := Nat × Option Addr × Nat × List UInt8) (fun (xτ : Nat × Option Addr × Nat × List UInt8) a Wx => (fun (ib : Nat) (qb : Option Addr) (qcb : Nat) (accb : List UInt8) => (ib ≤ (splitOn (s.extract ((cutF s j + 2).toNat) s.size) 58).length ∧ (∀ y, y < ib → 0 ≤ grpP (nth (splitOn (s.extract ((cutF s j + 2).toNat) s.size) 58) y)) ∧ accb = ((splitOn (s.extract ((cutF s j + 2).toNat) s.size) 58).take ib).flatMap grpB ∧ accb.length ≤ 2 * ib) ∧ Fr 160 a [(2, .pointer (some ⟨b1, 0, none⟩)), (6, .int .i64 (cutF s j)), (10, .slice (some ⟨b2, 0, none⟩) 0 0), (11, .slice qb accb.length qcb), (102, .slice q19 ((splitOn (s.extract ((cutF s j + 2).toNat) s.size) 58).length) qc3), (103, .int .i64 (((splitOn (s.extract ((cutF s j + 2).toNat) s.size) 58).length : Int))), (104, .int .i64 ((ib : Int)))] ∧ Own W noX [rowL u8L 1 5 qb qcb accb, rowL strL 1 9 q19 qc3 (splitOn (s.extract ((cutF s j + 2).toNat) s.size) 58), .blk b2 (.cells #[] 5 (0, 0)), .blk b1 (.cells zFParseT 33 (0, 0))] Wx) (xτ.1) (xτ.2.1) (xτ.2.2.1) (xτ.2.2.2)) (fun (xτ : Nat × Option Addr × Nat × List UInt8) => (fun (ib : Nat) (qb : Option Addr) (qcb : Nat) (accb : List UInt8) => (splitOn (s.extract ((cutF s j + 2).toNat) s.size) 58).length - ib) (xτ.1) (xτ.2.1) (xτ.2.2.1) (xτ.2.2.2)) ((0, some ⟨b3, 0, none⟩, 0, ([] : List UInt8))) ⟨⟨Nat.zero_le _, fun j h => by omega, rfl, Nat.le_refl _⟩, ?_, ?_⟩ ?_
     · exact hF.restrict ⟨(by kernel_rfl), (by kernel_rfl), (by kernel_rfl), (congrArg some (by first | rfl | exact congrArg (Value.int _) (by omega) | simp)), (by kernel_rfl), (by kernel_rfl), (congrArg some (by first | rfl | exact congrArg (Value.int _) (by omega) | simp)), trivial⟩
     · exact hO.sub (.cons_cons _ (.cons_cons _ (.cons_cons _ (.cons_cons _ (List.nil_sublist _)))))
     clear hF hO; rintro ⟨ib, qb, qcb, accb⟩ a Wl7 ⟨hB, hF, hO⟩ KhK_7 hK_7
     try dsimp only at hB
     refine wp_seq_k fun K64 hK64 => ?_
     refine wp_region_lit ?_
     refine Vp hF (.bool (decide ((ib : Int) < ((splitOn (s.extract ((cutF s j + 2).toNat) s.size) 58).length : Int)))) ?_; clear hF; intro a hF
     refine L_nil ?_
     refine hK64 _ _ ?_
     refine wp_seq_k fun K65 hK65 => ?_
     by_cases q20 : (ib : Int) < ((splitOn (s.extract ((cutF s j + 2).toNat) s.size) 58).length : Int)
     ·
      replace hF := hF.know (d := 105) (v' := .bool true) (by kernel_rfl) (congrArg Value.bool (decide_eq_true q20))
      refine cond_t hF (by kernel_rfl) (by kernel_rfl) ?_
      refine wp_skip ?_
      refine hK65 _ _ ?_
      refine wp_seq_k fun K66 hK66 => ?_
      refine wp_block ?_
      refine wp_seq_k fun K67 hK67 => ?_
      refine wp_region_lit ?_
      refine Vr hF (.pointer (some ⟨(ab q19), ao q19 + ib * 1, none⟩)) (x_idxAddrS (p := q19) (len := (splitOn (s.extract ((cutF s j + 2).toNat) s.size) 58).length) (cap := qc3) (elem := 9) (kd := .i64) (k := 1) (i := (ib : Int)) rfl (by kernel_rfl) (by kernel_rfl) (by kernel_rfl) (by kernel_rfl) (by omega) (by omega) (SlAt.ne (k := 1) (hO.row (List.mem_cons_of_mem _ List.mem_cons_self)) (fun _ => rfl) (by decide) (by (first | omega | (simp only [List.length_set, List.length_take, List.length_drop, List.length_append, List.length_cons, List.length_nil]; done) | (simp only [List.length_set, List.length_take, List.length_drop, List.length_append, List.length_cons, List.length_nil]; omega) | (simp only [List.length_set, List.length_take, List.length_drop, List.length_append, List.length_cons, List.length_nil] at *; omega)) : ib < (splitOn (s.extract ((cutF s j + 2).toNat) s.size) 58).length))) ?_; clear hF; intro a hF
      refine Vr hF (.string (nth (splitOn (s.extract ((cutF s j + 2).toNat) s.size) 58) ib)) (x_load (p := .pointer (some ⟨(ab q19), ao q19 + ib * 1, none⟩)) rfl (by kernel_rfl) (run_loadEl1 (by kernel_rfl) (hO.row (List.mem_cons_of_mem _ List.mem_cons_self)) (fun _ => rfl) (by (first | omega | (simp only [List.length_set, List.length_take, List.length_drop, List.length_append, List.length_cons, List.length_nil]; done) | (simp only [List.length_set, List.length_take, List.length_drop, List.length_append, List.length_cons, List.length_nil]; omega) | (simp only [List.length_set, List.length_take, List.length_drop, List.length_append, List.length_cons, List.length_nil] at *; omega))) rfl)) ?_; clear hF; intro a hF
      refine Vp hF (.string (nth (splitOn (s.extract ((cutF s j + 2).toNat) s.size) 58) ib)) ?_; clear hF; intro a hF
      refine L_nil ?_
      refine hK67 _ _ ?_
      refine wp_seq_k fun K68 hK68 => ?_
      refine wp_region_lit ?_
      refine Vp hF (.string (nth (splitOn (s.extract ((cutF s j + 2).toNat) s.size) 58) ib)) ?_; clear hF; intro a hF
      refine Lc hF (ref02_number16g (nth (splitOn (s.extract ((cutF s j + 2).toNat) s.size) 58) ib) Wl7 (by exact Nat.le_trans (split_size _ 58 _ (nth_mem (by omega))) (by first | exact hs | exact Nat.le_trans (ext_le _ _ _) hs))) ?_
      clear hF; rintro _ W31 a ⟨hgb, rfl, hk⟩ hF
      replace hO := hO.call0 hk; clear hk
      refine Vp hF (.int .i64 ((grpP (nth (splitOn (s.extract ((cutF s j + 2).toNat) s.size) 58) ib)))) ?_; clear hF; intro a hF
      refine L_nil ?_
      refine hK68 _ _ ?_
      refine wp_seq_k fun K69 hK69 => ?_
      refine wp_seq_k fun K70 hK70 => ?_
      refine wp_region_lit ?_
      refine Vp hF (.int .i64 ((grpP (nth (splitOn (s.extract ((cutF s j + 2).toNat) s.size) 58) ib)))) ?_; clear hF; intro a hF
      refine Vp hF (.bool (decide ((grpP (nth (splitOn (s.extract ((cutF s j + 2).toNat) s.size) 58) ib)) < 0))) ?_; clear hF; intro a hF
      refine L_nil ?_
      refine hK70 _ _ ?_
      by_cases q21 : (grpP (nth (splitOn (s.extract ((cutF s j + 2).toNat) s.size) 58) ib)) < 0
      ·
       replace hF := hF.know (d := 111) (v' := .bool true) (by kernel_rfl) (congrArg Value.bool (decide_eq_true q21))
       refine cond_t hF (by kernel_rfl) (by kernel_rfl) ?_
       refine wp_seq_k fun K71 hK71 => ?_
       refine wp_region_lit ?_
       refine Vp hF (.agg zFParseT) ?_; clear hF; intro a hF
       obtain ⟨W32, hst, hO1⟩ := run_storeAt (P := Tryz.prog) (k := 17) (T := 33) (off := 0) (v := .agg zFParseT) (cs := zFParseT) (cs' := zFParseT) hO (by kernel_rfl) (by kernel_rfl) (by kernel_rfl) (Nat.le_of_ble_eq_true (by kernel_rfl)) (by kernel_rfl) (.tail (.tail (.tail (.head _))))
       refine L_skip hF (by kernel_rfl) (by kernel_rfl) (x_store (p := .pointer (some ⟨b1, 0, none⟩)) (v := .agg zFParseT) rfl (by kernel_rfl) (by kernel_rfl) hst) (by kernel_rfl) ?_
       clear hst hF; intro a hF; replace hO := hO1; clear hO1
       refine Vp hF (.bool false) ?_; clear hF; intro a hF
       refine L_nil ?_
       refine hK71 _ _ ?_
       refine wp_ret ?_
       refine then_ret ?_
       refine block_ret ?_
       refine then_ret ?_
       refine then_ret ?_
       refine block_ret ?_
       refine then_ret ?_
       refine ret2 hF (v := ipV noIp) (u := .bool false) rfl (resC (ad := ⟨b1, 0, none⟩) (by kernel_rfl) (run_loadA (k := 17) (by kernel_rfl) (by kernel_rfl) (hO.blk (List.mem_cons_of_mem _ (List.mem_cons_of_mem _ (List.mem_cons_of_mem _ List.mem_cons_self)))) (by kernel_rfl) (by kernel_rfl))) (resT (by kernel_rfl)) (by refine ⟨?_, hO.nil⟩; (obtain rfl : j = 0 := (by omega); first | (rw [parS_bad1 hc hcut (piece_bad (i := ia) (by omega) (by omega) (by assumption))]; rfl) | (rw [parS_bad2 hc hcut (piece_bad (i := ib) (by omega) (by omega) (by assumption))]; rfl) | (rw [parS_len hc hcut (by first | exact piece_ok (i := ia) (by omega) (by omega) hA | exact piece_nil (by omega)) (by first | exact piece_ok (i := ib) (by omega) (by omega) hB | exact piece_nil (by omega)) (by (try simp only [List.length_nil]); omega)]; rfl) | (rw [parS_ok hc hcut (by first | exact piece_ok (i := ia) (by omega) (by omega) hA | exact piece_nil (by omega)) (by first | exact piece_ok (i := ib) (by omega) (by omega) hB | exact piece_nil (by omega)) (by (try simp only [List.length_nil]); omega) hZ.1 (by have hq := congrArg List.length hZ.1; have hz2 := hZ.2; simp only [List.length_append, List.length_replicate, List.length_nil] at hq hz2 ⊢; omega)]; rfl))) .ret (.inl rfl)
      ·
       replace hF := hF.know (d := 111) (v' := .bool false) (by kernel_rfl) (congrArg Value.bool (decide_eq_false q21))
       refine cond_f hF (by kernel_rfl) (by kernel_rfl) ?_
       refine wp_skip ?_
       refine hK69 _ _ ?_
       refine wp_region_lit ?_
       refine Vp hF (.slice qb accb.length qcb) ?_; clear hF; intro a hF
       refine Vp hF (.int .i64 ((grpP (nth (splitOn (s.extract ((cutF s j + 2).toNat) s.size) 58) ib)))) ?_; clear hF; intro a hF
       refine Vr hF (.int .i64 ((grpP (nth (splitOn (s.extract ((cutF s j + 2).toNat) s.size) 58) ib)) / 256)) (x_int (x := IntKind.i64.wrap (Int.tdiv (grpP (nth (splitOn (s.extract ((cutF s j + 2).toNat) s.size) 58) ib)) 256)) (i64Quo (by decide) (by omega) (by omega)) (by kernel_rfl)) ?_; clear hF; intro a hF
       refine Vr hF (.int .u8 (((ub ((grpP (nth (splitOn (s.extract ((cutF s j + 2).toNat) s.size) 58) ib)) / 256)).toNat : Int))) (x_int (x := IntKind.u8.wrap ((grpP (nth (splitOn (s.extract ((cutF s j + 2).toNat) s.size) 58) ib)) / 256)) (ub_wrap _) (by kernel_rfl)) ?_; clear hF; intro a hF
       refine Vp hF (.int .i64 ((grpP (nth (splitOn (s.extract ((cutF s j + 2).toNat) s.size) 58) ib)))) ?_; clear hF; intro a hF
       refine Vr hF (.int .i64 ((grpP (nth (splitOn (s.extract ((cutF s j + 2).toNat) s.size) 58) ib)) % 256)) (x_int (x := Int.tmod (grpP (nth (splitOn (s.extract ((cutF s j + 2).toNat) s.size) 58) ib)) 256) (rem_pos (by omega)) (by kernel_rfl)) ?_; clear hF; intro a hF
       refine Vr hF (.int .u8 (((ub ((grpP (nth (splitOn (s.extract ((cutF s j + 2).toNat) s.size) 58) ib)) % 256)).toNat : Int))) (x_int (x := IntKind.u8.wrap ((grpP (nth (splitOn (s.extract ((cutF s j + 2).toNat) s.size) 58) ib)) % 256)) (ub_wrap _) (by kernel_rfl)) ?_; clear hF; intro a hF
       refine L_new hF hO (by kernel_rfl) (by kernel_rfl) (vf := fun b => .slice (some ⟨b, 0, none⟩) 2 2) (ob := .cells #[.int .u8 (((ub ((grpP (nth (splitOn (s.extract ((cutF s j + 2).toNat) s.size) 58) ib)) / 256)).toNat : Int)), .int .u8 (((ub ((grpP (nth (splitOn (s.extract ((cutF s j + 2).toNat) s.size) 58) ib)) % 256)).toNat : Int))] 5) (by kernel_rfl) (by kernel_rfl) ?_
       clear hF hO; intro b10 W33 a hO hF
       obtain ⟨p7, cap7, W34, hap, hO1, -⟩ := run_append_row (P := Tryz.prog) (ty := 46) (t := 46) (z := .int .u8 0) (k := 1) (bytes := 1) (q := some ⟨b10, 0, none⟩) (ys := ([(ub ((grpP (nth (splitOn (s.extract ((cutF s j + 2).toNat) s.size) 58) ib)) / 256)), (ub ((grpP (nth (splitOn (s.extract ((cutF s j + 2).toNat) s.size) 58) ib)) % 256))] : List UInt8)) (cq := 2) hO (.tail (.head _)) (by kernel_rfl) (by kernel_rfl) (by kernel_rfl) (by decide) (fun _ => rfl) (fun _ => rfl) (SlAt.blk hO List.mem_cons_self (by kernel_rfl)) (by (try simp only [List.length_append, List.length_take, List.length_drop, List.length_cons, List.length_nil, maxLen]); omega) (by (try simp only [List.length_append, List.length_take, List.length_drop, List.length_cons, List.length_nil, maxLen]); omega)
       refine L_valW hF (by kernel_rfl) (by kernel_rfl) (x_app hap rfl (by kernel_rfl) (by kernel_rfl) rfl) (by kernel_rfl) ?_
       clear hap hF; intro a hF; replace hO := hO1; clear hO1
       refine Vp hF (.slice p7 ((accb ++ ([(ub ((grpP (nth (splitOn (s.extract ((cutF s j + 2).toNat) s.size) 58) ib)) / 256)), (ub ((grpP (nth (splitOn (s.extract ((cutF s j + 2).toNat) s.size) 58) ib)) % 256))] : List UInt8)).length) cap7) ?_; clear hF; intro a hF
       refine L_nil ?_
       refine block_normal ?_
       refine hK66 _ _ ?_
       refine wp_region_lit ?_
       refine Vr hF (.int .i64 ((ib : Int) + 1)) (x_int (x := IntKind.i64.wrap ((ib : Int) + 1)) (i64In (by omega) (by omega)) (by kernel_rfl)) ?_; clear hF; intro a hF
       refine Vp hF (.int .i64 ((ib : Int) + 1)) ?_; clear hF; intro a hF
       refine L_nil ?_
       refine hK_7 ((ib + 1, p7, cap7, accb ++ ([(ub ((grpP (nth (splitOn (s.extract ((cutF s j + 2).toNat) s.size) 58) ib)) / 256)), (ub ((grpP (nth (splitOn (s.extract ((cutF s j + 2).toNat) s.size) 58) ib)) % 256))] : List UInt8))) _ _ (by first | omega | (dsimp only; omega)) ⟨roundR hB q20 q21, ?_, ?_⟩
       · exact hF.restrict ⟨(by kernel_rfl), (by kernel_rfl), (by kernel_rfl), (congrArg some (by first | rfl | exact congrArg (Value.int _) (by omega))), (by kernel_rfl), (by kernel_rfl), (congrArg some (by first | rfl | exact congrArg (Value.int _) (by omega))), trivial⟩
       · exact hO.sub (.cons_cons _ (.cons _ (.cons_cons _ (.cons_cons _ (.cons_cons _ (List.nil_sublist _))))))
     ·
      replace hF := hF.know (d := 105) (v' := .bool false) (by kernel_rfl) (congrArg Value.bool (decide_eq_false q20))
      refine cond_f hF (by kernel_rfl) (by kernel_rfl) ?_
      refine wp_exit ?_
      refine then_exit ?_
      refine then_exit ?_
      refine inBlock_hit ?_
      refine hK61 _ _ ?_
      refine wp_seq_k fun K72 hK72 => ?_
      refine wp_seq_k fun K73 hK73 => ?_
      refine wp_region_lit ?_
      refine Vp hF (.int .i64 (cutF s j)) ?_; clear hF; intro a hF
      refine Vp hF (.bool (decide (cutF s j < 0))) ?_; clear hF; intro a hF
      refine Vp hF (.bool (decide (cutF s j < 0))) ?_; clear hF; intro a hF
      replace hF := hF.know (d := 125) (v' := .bool false) (by kernel_rfl) (congrArg Value.bool (decide_eq_false (show ¬ (cutF s j < 0) from (by obtain rfl : j = 0 := (by omega); omega))))
      refine Lo hF ?_; clear hF; intro a hF
      refine Lo hF ?_; clear hF; intro a hF
      refine Lo hF ?_; clear hF; intro a hF
      refine Vp hF (.bool false) ?_; clear hF; intro a hF
      refine Vp hF (.bool false) ?_; clear hF; intro a hF
      refine Vp hF (.int .i64 (cutF s j)) ?_; clear hF; intro a hF
      refine Vp hF (.bool (decide (cutF s j ≥ 0))) ?_; clear hF; intro a hF
      refine Vp hF (.bool (decide (cutF s j ≥ 0))) ?_; clear hF; intro a hF
      replace hF := hF.know (d := 133) (v' := .bool true) (by kernel_rfl) (congrArg Value.bool (decide_eq_true (show cutF s j ≥ 0 from (by obtain rfl : j = 0 := (by omega); omega))))
      refine Vp hF (.slice (some ⟨b2, 0, none⟩) 0 0) ?_; clear hF; intro a hF
      refine Vp hF (.int .i64 0) ?_; clear hF; intro a hF
      refine Vp hF (.slice qb accb.length qcb) ?_; clear hF; intro a hF
      refine Vp hF (.int .i64 ((accb.length : Int))) ?_; clear hF; intro a hF
      refine Vr hF (.int .i64 (0 + (accb.length : Int))) (x_int (x := IntKind.i64.wrap (0 + (accb.length : Int))) (i64In (by omega) (by omega)) (by kernel_rfl)) ?_; clear hF; intro a hF
      refine Vp hF (.bool (decide (0 + (accb.length : Int) > 14))) ?_; clear hF; intro a hF
      refine Vp hF (.bool (decide (0 + (accb.length : Int) > 14))) ?_; clear hF; intro a hF
      refine Vp hF (.bool (decide (0 + (accb.length : Int) > 14))) ?_; clear hF; intro a hF
      refine L_nil ?_
      refine hK73 _ _ ?_
      by_cases q22 : 0 + (accb.length : Int) > 14
      ·
       replace hF := hF.know (d := 141) (v' := .bool true) (by kernel_rfl) (congrArg Value.bool (decide_eq_true q22))
       refine cond_t hF (by kernel_rfl) (by kernel_rfl) ?_
       refine wp_seq_k fun K74 hK74 => ?_
       refine wp_region_lit ?_
       refine Vp hF (.agg zFParseT) ?_; clear hF; intro a hF
       obtain ⟨W35, hst, hO1⟩ := run_storeAt (P := Tryz.prog) (k := 17) (T := 33) (off := 0) (v := .agg zFParseT) (cs := zFParseT) (cs' := zFParseT) hO (by kernel_rfl) (by kernel_rfl) (by kernel_rfl) (Nat.le_of_ble_eq_true (by kernel_rfl)) (by kernel_rfl) (.tail (.tail (.tail (.head _))))
       refine L_skip hF (by kernel_rfl) (by kernel_rfl) (x_store (p := .pointer (some ⟨b1, 0, none⟩)) (v := .agg zFParseT) rfl (by kernel_rfl) (by kernel_rfl) hst) (by kernel_rfl) ?_
       clear hst hF; intro a hF; replace hO := hO1; clear hO1
       refine Vp hF (.bool false) ?_; clear hF; intro a hF
       refine L_nil ?_
       refine hK74 _ _ ?_
       refine wp_ret ?_
       refine then_ret ?_
       refine ret2 hF (v := ipV noIp) (u := .bool false) rfl (resC (ad := ⟨b1, 0, none⟩) (by kernel_rfl) (run_loadA (k := 17) (by kernel_rfl) (by kernel_rfl) (hO.blk (List.mem_cons_of_mem _ (List.mem_cons_of_mem _ (List.mem_cons_of_mem _ List.mem_cons_self)))) (by kernel_rfl) (by kernel_rfl))) (resT (by kernel_rfl)) (by refine ⟨?_, hO.nil⟩; (obtain rfl : j = 0 := (by omega); first | (rw [parS_bad1 hc hcut (piece_bad (i := ia) (by omega) (by omega) (by assumption))]; rfl) | (rw [parS_bad2 hc hcut (piece_bad (i := ib) (by omega) (by omega) (by assumption))]; rfl) | (rw [parS_len hc hcut (by first | exact piece_ok (i := ia) (by omega) (by omega) hA | exact piece_nil (by omega)) (by first | exact piece_ok (i := ib) (by omega) (by omega) hB | exact piece_nil (by omega)) (by (try simp only [List.length_nil]); omega)]; rfl) | (rw [parS_ok hc hcut (by first | exact piece_ok (i := ia) (by omega) (by omega) hA | exact piece_nil (by omega)) (by first | exact piece_ok (i := ib) (by omega) (by omega) hB | exact piece_nil (by omega)) (by (try simp only [List.length_nil]); omega) hZ.1 (by have hq := congrArg List.length hZ.1; have hz2 := hZ.2; simp only [List.length_append, List.length_replicate, List.length_nil] at hq hz2 ⊢; omega)]; rfl))) .ret (.inl rfl)
      ·
       replace hF := hF.know (d := 141) (v' := .bool false) (by kernel_rfl) (congrArg Value.bool (decide_eq_false q22))
       refine cond_f hF (by kernel_rfl) (by kernel_rfl) ?_
       refine wp_skip ?_
       refine hK72 _ _ ?_
       refine wp_seq_k fun K75 hK75 => ?_
       refine wp_block ?_
       replace hO := hO.asRow (k := 1) (cap := 0) u8L ([] : List UInt8) (.tail (.tail (.head _))) (by decide) (by kernel_rfl) (by decide) (by kernel_rfl)
       replace hO := hO.front (.tail (.tail (.head _)))
       refine loopX (τ := Nat × Option Addr × Nat × List UInt8) (fun (xτ : Nat × Option Addr × Nat × List UInt8) a Wx => (fun (k : Nat) (zq : Option Addr) (zqc : Nat) (zc : List UInt8) => (zc = ([] : List UInt8) ++ List.replicate k 0 ∧ ([] : List UInt8).length + k + accb.length ≤ 16) ∧ Fr 160 a [(2, .pointer (some ⟨b1, 0, none⟩)), (10, .slice zq zc.length zqc), (11, .slice qb accb.length qcb)] ∧ Own W noX [rowL u8L 1 5 zq zqc zc, rowL u8L 1 5 qb qcb accb, rowL strL 1 9 q19 qc3 (splitOn (s.extract ((cutF s j + 2).toNat) s.size) 58), .blk b1 (.cells zFParseT 33 (0, 0))] Wx) (xτ.1) (xτ.2.1) (xτ.2.2.1) (xτ.2.2.2)) (fun (xτ : Nat × Option Addr × Nat × List UInt8) => (fun (k : Nat) (zq : Option Addr) (zqc : Nat) (zc : List UInt8) => 16 - k) (xτ.1) (xτ.2.1) (xτ.2.2.1) (xτ.2.2.2)) ((0, some ⟨b2, 0, none⟩, 0, ([] : List UInt8))) ⟨⟨by simp, by (try simp only [List.length_nil]); omega⟩, ?_, ?_⟩ ?_
       · exact hF.restrict ⟨(by kernel_rfl), (congrArg some (by first | rfl | exact congrArg (Value.int _) (by omega) | simp)), (by kernel_rfl), trivial⟩
       · exact hO.sub (.cons_cons _ (.cons_cons _ (.cons_cons _ (.cons_cons _ (List.nil_sublist _)))))
       clear hF hO; rintro ⟨k, zq, zqc, zc⟩ a Wl8 ⟨hZ, hF, hO⟩ KhK_8 hK_8
       try dsimp only at hZ
       refine wp_seq_k fun K76 hK76 => ?_
       refine wp_seq_k fun K77 hK77 => ?_
       refine wp_region_lit ?_
       refine Vp hF (.slice zq zc.length zqc) ?_; clear hF; intro a hF
       refine Vp hF (.int .i64 ((zc.length : Int))) ?_; clear hF; intro a hF
       refine Vp hF (.slice qb accb.length qcb) ?_; clear hF; intro a hF
       refine Vp hF (.int .i64 ((accb.length : Int))) ?_; clear hF; intro a hF
       refine Vr hF (.int .i64 ((zc.length : Int) + (accb.length : Int))) (x_int (x := IntKind.i64.wrap ((zc.length : Int) + (accb.length : Int))) (i64In (by (first | omega | (have hcb := cutF_bd s j; omega) | (obtain rfl : j = 0 := (by omega); have hcb := cutF_bd s 0; omega) | ((try simp only [maxLen] at *); omega) | (have hq := congrArg List.length hZ.1; (try simp only [List.length_append, List.length_replicate, List.length_nil] at *); (try simp only [maxLen] at *); omega))) (by (first | omega | (have hcb := cutF_bd s j; omega) | (obtain rfl : j = 0 := (by omega); have hcb := cutF_bd s 0; omega) | ((try simp only [maxLen] at *); omega) | (have hq := congrArg List.length hZ.1; (try simp only [List.length_append, List.length_replicate, List.length_nil] at *); (try simp only [maxLen] at *); omega)))) (by kernel_rfl)) ?_; clear hF; intro a hF
       refine Vp hF (.bool (decide ((zc.length : Int) + (accb.length : Int) < 16))) ?_; clear hF; intro a hF
       refine L_nil ?_
       refine hK77 _ _ ?_
       by_cases q23 : (zc.length : Int) + (accb.length : Int) < 16
       ·
        replace hF := hF.know (d := 148) (v' := .bool true) (by kernel_rfl) (congrArg Value.bool (decide_eq_true q23))
        refine cond_t hF (by kernel_rfl) (by kernel_rfl) ?_
        refine wp_skip ?_
        refine hK76 _ _ ?_
        refine wp_block ?_
        refine wp_region_lit ?_
        refine Vp hF (.slice zq zc.length zqc) ?_; clear hF; intro a hF
        refine L_new hF hO (by kernel_rfl) (by kernel_rfl) (vf := fun b => .slice (some ⟨b, 0, none⟩) 1 1) (ob := .cells #[.int .u8 0] 5) (by kernel_rfl) (by kernel_rfl) ?_
        clear hF hO; intro b11 W36 a hO hF
        obtain ⟨p8, cap8, W37, hap, hO1, -⟩ := run_append_row (P := Tryz.prog) (ty := 46) (t := 46) (z := .int .u8 0) (k := 1) (bytes := 1) (q := some ⟨b11, 0, none⟩) (ys := ([0] : List UInt8)) (cq := 1) hO (.tail (.head _)) (by kernel_rfl) (by kernel_rfl) (by kernel_rfl) (by decide) (fun _ => rfl) (fun _ => rfl) (SlAt.blk hO List.mem_cons_self (by kernel_rfl)) (by (try simp only [List.length_append, List.length_take, List.length_drop, List.length_cons, List.length_nil, maxLen]); omega) (by (try simp only [List.length_append, List.length_take, List.length_drop, List.length_cons, List.length_nil, maxLen]); omega)
        refine L_valW hF (by kernel_rfl) (by kernel_rfl) (x_app hap rfl (by kernel_rfl) (by kernel_rfl) rfl) (by kernel_rfl) ?_
        clear hap hF; intro a hF; replace hO := hO1; clear hO1
        refine Vp hF (.slice p8 ((zc ++ ([0] : List UInt8)).length) cap8) ?_; clear hF; intro a hF
        refine L_nil ?_
        refine block_normal ?_
        refine hK_8 ((k + 1, p8, cap8, zc ++ ([0] : List UInt8))) _ _ ((by have hq := congrArg List.length hZ.1; simp only [List.length_append, List.length_replicate, List.length_nil] at hq; dsimp only; omega)) ⟨(by have hq := congrArg List.length hZ.1; simp only [List.length_append, List.length_replicate, List.length_nil] at hq; refine ⟨fill_round hZ.1, ?_⟩; dsimp only; (try simp only [List.length_nil]); omega), ?_, ?_⟩
        · exact hF.restrict ⟨(by kernel_rfl), (congrArg some (by first | rfl | exact congrArg (Value.int _) (by omega))), (by kernel_rfl), trivial⟩
        · exact hO.sub (.cons_cons _ (.cons _ (.cons_cons _ (.cons_cons _ (.cons_cons _ (List.nil_sublist _))))))
       ·
        replace hF := hF.know (d := 148) (v' := .bool false) (by kernel_rfl) (congrArg Value.bool (decide_eq_false q23))
        refine cond_f hF (by kernel_rfl) (by kernel_rfl) ?_
        refine wp_exit ?_
        refine then_exit ?_
        refine then_exit ?_
        refine inBlock_hit ?_
        refine hK75 _ _ ?_
        refine wp_seq_k fun K78 hK78 => ?_
        refine wp_region_lit ?_
        refine Vp hF (.agg zTParseT) ?_; clear hF; intro a hF
        refine L_new hF hO (by kernel_rfl) (by kernel_rfl) (vf := fun b => .pointer (some ⟨b, 0, none⟩)) (ob := .cells zFParseT 33) (by kernel_rfl) (by kernel_rfl) ?_
        clear hF hO; intro b12 W38 a hO hF
        obtain ⟨W39, hst, hO1⟩ := run_storeAt (P := Tryz.prog) (k := 17) (T := 33) (off := 0) (v := .agg zTParseT) (cs := zFParseT) (cs' := zTParseT) hO (by kernel_rfl) (by kernel_rfl) (by kernel_rfl) (Nat.le_of_ble_eq_true (by kernel_rfl)) (by kernel_rfl) (.head _)
        refine L_skip hF (by kernel_rfl) (by kernel_rfl) (x_store (p := .pointer (some ⟨b12, 0, none⟩)) (v := .agg zTParseT) rfl (by kernel_rfl) (by kernel_rfl) hst) (by kernel_rfl) ?_
        clear hst hF; intro a hF; replace hO := hO1; clear hO1
        refine L_nil ?_
        refine hK78 _ _ ?_
        refine wp_seq_k fun K79 hK79 => ?_
        refine A_start (fun Wx => Own W noX [rowL u8L 1 5 qb qcb accb, rowL strL 1 9 q19 qc3 (splitOn (s.extract ((cutF s j + 2).toNat) s.size) 58)] Wx) (by kernel_rfl) ?_
        replace hO := hO.drewN 1
        generalize hWd : ({ W39 with drawn := W39.drawn + 1 } : World) = W39_d at hO ⊢; clear hWd
        have hS := hO.sub (.cons _ (.cons _ (.cons_cons _ (.cons_cons _ (List.nil_sublist _)))))
        refine Tk 0 rfl hF (.pointer (some ⟨b12, 1, none⟩)) (fun Wx _ => by kernel_rfl) hS ?_; clear hF; intro a hF
        refine Tk 1 rfl hF (.slice (some ⟨b12, 1, none⟩) 16 16) (fun Wx _ => (x_slArr (b := b12) (off := 1) (n := 16) (elem := 5) (lo := 0) (hi := 16) rfl (by kernel_rfl) (by kernel_rfl) (by kernel_rfl) rfl rfl (by omega) (by omega) (by omega) (by kernel_rfl) (by first | rfl | omega) (by first | rfl | omega))) hS ?_; clear hF; intro a hF
        refine Tk 2 rfl hF (.slice zq zc.length zqc) (fun Wx _ => by kernel_rfl) hS ?_; clear hF; intro a hF
        refine Tk 3 rfl hF (.slice qb accb.length qcb) (fun Wx _ => by kernel_rfl) hS ?_; clear hF; intro a hF
        refine A_one (i := 4) (listed' := #[true, true, true, true, true, false]) (by kernel_rfl) rfl (by kernel_rfl) ?_
        obtain ⟨p9, cap9, W40, hap, hO1, -⟩ := run_append_row (P := Tryz.prog) (ty := 46) (t := 46) (z := .int .u8 0) (k := 1) (bytes := 1) (q := qb) (ys := accb) (cq := qcb) hO (.tail (.head _)) (by kernel_rfl) (by kernel_rfl) (by kernel_rfl) (by decide) (fun _ => rfl) (fun _ => rfl) (hO.row (List.mem_cons_of_mem _ (List.mem_cons_of_mem _ List.mem_cons_self))) (by (try simp only [List.length_append, List.length_take, List.length_drop, List.length_cons, List.length_nil, maxLen]); (first | omega | (have hcb := cutF_bd s j; omega) | (obtain rfl : j = 0 := (by omega); have hcb := cutF_bd s 0; omega) | ((try simp only [maxLen] at *); omega) | (have hq := congrArg List.length hZ.1; (try simp only [List.length_append, List.length_replicate, List.length_nil] at *); (try simp only [maxLen] at *); omega))) (by (try simp only [List.length_append, List.length_take, List.length_drop, List.length_cons, List.length_nil, maxLen]); (first | omega | (have hcb := cutF_bd s j; omega) | (obtain rfl : j = 0 := (by omega); have hcb := cutF_bd s 0; omega) | ((try simp only [maxLen] at *); omega) | (have hq := congrArg List.length hZ.1; (try simp only [List.length_append, List.length_replicate, List.length_nil] at *); (try simp only [maxLen] at *); omega)))
        refine OpK.valW hF (by kernel_rfl) (by kernel_rfl) (x_app hap rfl (by kernel_rfl) (by kernel_rfl) rfl) (by kernel_rfl) ?_
        clear hap hF; intro a hF; replace hO := hO1; clear hO1
        refine ⟨hO.sub (.cons _ (.cons _ (.cons_cons _ (.cons_cons _ (List.nil_sublist _))))), ?_⟩
        refine A_one (i := 5) (listed' := #[true, true, true, true, true, true]) (by kernel_rfl) rfl (by kernel_rfl) ?_
        replace hO := hO.reblk (cs := zTParseT) (cs' := (ipL sixIp).toArray) (by kernel_rfl) (.tail (.head _))
        obtain ⟨W41, hst, hO1⟩ := run_copy_ip (P := Tryz.prog) (e := 5) (t := 46) (ty := 3) (j := 0) (n := 16) (c := 16) (off := 1) (cq := cap9) (q := p9) (A := zc ++ accb) hO (.tail (.head _)) (by kernel_rfl) (by kernel_rfl) (hO.row List.mem_cons_self) (by (first | omega | (have hcb := cutF_bd s j; omega) | (obtain rfl : j = 0 := (by omega); have hcb := cutF_bd s 0; omega) | ((try simp only [maxLen] at *); omega) | (have hq := congrArg List.length hZ.1; (try simp only [List.length_append, List.length_replicate, List.length_nil] at *); (try simp only [maxLen] at *); omega))) (by (first | omega | (have hcb := cutF_bd s j; omega) | (obtain rfl : j = 0 := (by omega); have hcb := cutF_bd s 0; omega) | ((try simp only [maxLen] at *); omega) | (have hq := congrArg List.length hZ.1; (try simp only [List.length_append, List.length_replicate, List.length_nil] at *); (try simp only [maxLen] at *); omega))) (by (try unfold arrOff); intros; (try split) <;> (first | omega | (have hcb := cutF_bd s j; omega) | (obtain rfl : j = 0 := (by omega); have hcb := cutF_bd s 0; omega) | ((try simp only [maxLen] at *); omega) | (have hq := congrArg List.length hZ.1; (try simp only [List.length_append, List.length_replicate, List.length_nil] at *); (try simp only [maxLen] at *); omega)))
        refine OpK.valW hF (by kernel_rfl) (by kernel_rfl) (x_copy hst rfl (by kernel_rfl) (by kernel_rfl) rfl) (by kernel_rfl) ?_
        clear hst hF; intro a hF; replace hO := hO1; clear hO1
        refine ⟨hO.sub (.cons _ (.cons _ (.cons_cons _ (.cons_cons _ (List.nil_sublist _))))), ?_⟩
        refine A_done (by kernel_rfl) ?_
        refine hK79 _ _ ?_
        refine wp_seq_k fun K80 hK80 => ?_
        refine wp_region_lit ?_
        refine Vr hF (ipV (sixIp.cpy 0 (zc ++ accb))) (x_load (p := .pointer (some ⟨b12, 0, none⟩)) rfl (by kernel_rfl) (run_loadA (k := 17) (by kernel_rfl) (by kernel_rfl) (hO.blk (List.mem_cons_of_mem _ List.mem_cons_self)) (by kernel_rfl) (by kernel_rfl))) ?_; clear hF; intro a hF
        obtain ⟨W42, hst, hO1⟩ := run_storeAt (P := Tryz.prog) (k := 17) (T := 33) (off := 0) (v := ipV (sixIp.cpy 0 (zc ++ accb))) (cs := zFParseT) (cs' := (ipL (sixIp.cpy 0 (zc ++ accb))).toArray) hO (by kernel_rfl) (by kernel_rfl) (by kernel_rfl) (Nat.le_of_ble_eq_true (by kernel_rfl)) (by kernel_rfl) (.tail (.tail (.tail (.tail (.head _)))))
        refine L_skip hF (by kernel_rfl) (by kernel_rfl) (x_store (p := .pointer (some ⟨b1, 0, none⟩)) (v := ipV (sixIp.cpy 0 (zc ++ accb))) rfl (by kernel_rfl) (by kernel_rfl) hst) (by kernel_rfl) ?_
        clear hst hF; intro a hF; replace hO := hO1; clear hO1
        refine Vp hF (.bool true) ?_; clear hF; intro a hF
        refine L_nil ?_
        refine hK80 _ _ ?_
        refine wp_ret ?_
        refine ret2 hF (v := ipV (sixIp.cpy 0 (zc ++ accb))) (u := .bool true) rfl (resC (ad := ⟨b1, 0, none⟩) (by kernel_rfl) (run_loadA (k := 17) (by kernel_rfl) (by kernel_rfl) (hO.blk (List.mem_cons_of_mem _ (List.mem_cons_of_mem _ (List.mem_cons_of_mem _ (List.mem_cons_of_mem _ List.mem_cons_self))))) (by kernel_rfl) (by kernel_rfl))) (resT (by kernel_rfl)) (by refine ⟨?_, hO.nil⟩; (obtain rfl : j = 0 := (by omega); first | (rw [parS_bad1 hc hcut (piece_bad (i := ia) (by omega) (by omega) (by assumption))]; rfl) | (rw [parS_bad2 hc hcut (piece_bad (i := ib) (by omega) (by omega) (by assumption))]; rfl) | (rw [parS_len hc hcut (by first | exact piece_ok (i := ia) (by omega) (by omega) hA | exact piece_nil (by omega)) (by first | exact piece_ok (i := ib) (by omega) (by omega) hB | exact piece_nil (by omega)) (by (try simp only [List.length_nil]); omega)]; rfl) | (rw [parS_ok hc hcut (by first | exact piece_ok (i := ia) (by omega) (by omega) hA | exact piece_nil (by omega)) (by first | exact piece_ok (i := ib) (by omega) (by omega) hB | exact piece_nil (by omega)) (by (try simp only [List.length_nil]); omega) hZ.1 (by have hq := congrArg List.length hZ.1; have hz2 := hZ.2; simp only [List.length_append, List.length_replicate, List.length_nil] at hq hz2 ⊢; omega)]; rfl))) .ret (.inl rfl)
    ·
     replace hF := hF.know (d := 100) (v' := .bool false) (by kernel_rfl) (congrArg Value.bool (decide_eq_false q18))
     refine cond_f hF (by kernel_rfl) (by kernel_rfl) ?_
     refine wp_skip ?_
     refine hK61 _ _ ?_
     refine wp_seq_k fun K81 hK81 => ?_
     refine wp_seq_k fun K82 hK82 => ?_
     refine wp_region_lit ?_
     refine Vp hF (.int .i64 (cutF s j)) ?_; clear hF; intro a hF
     refine Vp hF (.bool (decide (cutF s j < 0))) ?_; clear hF; intro a hF
     refine Vp hF (.bool (decide (cutF s j < 0))) ?_; clear hF; intro a hF
     replace hF := hF.know (d := 125) (v' := .bool false) (by kernel_rfl) (congrArg Value.bool (decide_eq_false (show ¬ (cutF s j < 0) from (by obtain rfl : j = 0 := (by omega); omega))))
     refine Lo hF ?_; clear hF; intro a hF
     refine Lo hF ?_; clear hF; intro a hF
     refine Lo hF ?_; clear hF; intro a hF
     refine Vp hF (.bool false) ?_; clear hF; intro a hF
     refine Vp hF (.bool false) ?_; clear hF; intro a hF
     refine Vp hF (.int .i64 (cutF s j)) ?_; clear hF; intro a hF
     refine Vp hF (.bool (decide (cutF s j ≥ 0))) ?_; clear hF; intro a hF
     refine Vp hF (.bool (decide (cutF s j ≥ 0))) ?_; clear hF; intro a hF
     replace hF := hF.know (d := 133) (v' := .bool true) (by kernel_rfl) (congrArg Value.bool (decide_eq_true (show cutF s j ≥ 0 from (by obtain rfl : j = 0 := (by omega); omega))))
     refine Vp hF (.slice (some ⟨b2, 0, none⟩) 0 0) ?_; clear hF; intro a hF
     refine Vp hF (.int .i64 0) ?_; clear hF; intro a hF
     refine Vp hF (.slice (some ⟨b3, 0, none⟩) 0 0) ?_; clear hF; intro a hF
     refine Vp hF (.int .i64 0) ?_; clear hF; intro a hF
     refine Vp hF (.int .i64 0) ?_; clear hF; intro a hF
     refine Vp hF (.bool false) ?_; clear hF; intro a hF
     refine Vp hF (.bool false) ?_; clear hF; intro a hF
     refine Vp hF (.bool false) ?_; clear hF; intro a hF
     refine L_nil ?_
     refine hK82 _ _ ?_
     refine cond_f hF (by kernel_rfl) (by kernel_rfl) ?_
     refine wp_skip ?_
     refine hK81 _ _ ?_
     refine wp_seq_k fun K83 hK83 => ?_
     refine wp_block ?_
     replace hO := hO.asRow (k := 1) (cap := 0) u8L ([] : List UInt8) (.tail (.head _)) (by decide) (by kernel_rfl) (by decide) (by kernel_rfl)
     replace hO := hO.front (.tail (.head _))
     refine loopX (τ := Nat × Option Addr × Nat × List UInt8) (fun (xτ : Nat × Option Addr × Nat × List UInt8) a Wx => (fun (k : Nat) (zq : Option Addr) (zqc : Nat) (zc : List UInt8) => (zc = ([] : List UInt8) ++ List.replicate k 0 ∧ ([] : List UInt8).length + k + ([] : List UInt8).length ≤ 16) ∧ Fr 160 a [(2, .pointer (some ⟨b1, 0, none⟩)), (3, .bool false), (10, .slice zq zc.length zqc), (11, .slice (some ⟨b3, 0, none⟩) 0 0)] ∧ Own W noX [rowL u8L 1 5 zq zqc zc, .blk b3 (.cells #[] 5 (0, 0)), .blk b1 (.cells zFParseT 33 (0, 0))] Wx) (xτ.1) (xτ.2.1) (xτ.2.2.1) (xτ.2.2.2)) (fun (xτ : Nat × Option Addr × Nat × List UInt8) => (fun (k : Nat) (zq : Option Addr) (zqc : Nat) (zc : List UInt8) => 16 - k) (xτ.1) (xτ.2.1) (xτ.2.2.1) (xτ.2.2.2)) ((0, some ⟨b2, 0, none⟩, 0, ([] : List UInt8))) ⟨⟨by simp, by (try simp only [List.length_nil]); omega⟩, ?_, ?_⟩ ?_
     · exact hF.restrict ⟨(by kernel_rfl), (by kernel_rfl), (congrArg some (by first | rfl | exact congrArg (Value.int _) (by omega) | simp)), (by kernel_rfl), trivial⟩
     · exact hO.sub (.cons_cons _ (.cons_cons _ (.cons_cons _ (List.nil_sublist _))))
     clear hF hO; rintro ⟨k, zq, zqc, zc⟩ a Wl9 ⟨hZ, hF, hO⟩ KhK_9 hK_9
     try dsimp only at hZ
     refine wp_seq_k fun K84 hK84 => ?_
     refine wp_seq_k fun K85 hK85 => ?_
     refine wp_region_lit ?_
     refine Vp hF (.slice zq zc.length zqc) ?_; clear hF; intro a hF
     refine Vp hF (.int .i64 ((zc.length : Int))) ?_; clear hF; intro a hF
     refine Vp hF (.slice (some ⟨b3, 0, none⟩) 0 0) ?_; clear hF; intro a hF
     refine Vp hF (.int .i64 0) ?_; clear hF; intro a hF
     refine Vr hF (.int .i64 ((zc.length : Int) + 0)) (x_int (x := IntKind.i64.wrap ((zc.length : Int) + 0)) (i64In (by (first | omega | (have hcb := cutF_bd s j; omega) | (obtain rfl : j = 0 := (by omega); have hcb := cutF_bd s 0; omega) | ((try simp only [maxLen] at *); omega) | (have hq := congrArg List.length hZ.1; (try simp only [List.length_append, List.length_replicate, List.length_nil] at *); (try simp only [maxLen] at *); omega))) (by (first | omega | (have hcb := cutF_bd s j; omega) | (obtain rfl : j = 0 := (by omega); have hcb := cutF_bd s 0; omega) | ((try simp only [maxLen] at *); omega) | (have hq := congrArg List.length hZ.1; (try simp only [List.length_append, List.length_replicate, List.length_nil] at *); (try simp only [maxLen] at *); omega)))) (by kernel_rfl)) ?_; clear hF; intro a hF
     refine Vp hF (.bool (decide ((zc.length : Int) + 0 < 16))) ?_; clear hF; intro a hF
     refine L_nil ?_
     refine hK85 _ _ ?_
     by_cases q24 : (zc.length : Int) + 0 < 16
     ·
      replace hF := hF.know (d := 148) (v' := .bool true) (by kernel_rfl) (congrArg Value.bool (decide_eq_true q24))
      refine cond_t hF (by kernel_rfl) (by kernel_rfl) ?_
      refine wp_skip ?_
      refine hK84 _ _ ?_
      refine wp_block ?_
      refine wp_region_lit ?_
      refine Vp hF (.slice zq zc.length zqc) ?_; clear hF; intro a hF
      refine L_new hF hO (by kernel_rfl) (by kernel_rfl) (vf := fun b => .slice (some ⟨b, 0, none⟩) 1 1) (ob := .cells #[.int .u8 0] 5) (by kernel_rfl) (by kernel_rfl) ?_
      clear hF hO; intro b13 W43 a hO hF
      obtain ⟨p10, cap10, W44, hap, hO1, -⟩ := run_append_row (P := Tryz.prog) (ty := 46) (t := 46) (z := .int .u8 0) (k := 1) (bytes := 1) (q := some ⟨b13, 0, none⟩) (ys := ([0] : List UInt8)) (cq := 1) hO (.tail (.head _)) (by kernel_rfl) (by kernel_rfl) (by kernel_rfl) (by decide) (fun _ => rfl) (fun _ => rfl) (SlAt.blk hO List.mem_cons_self (by kernel_rfl)) (by (try simp only [List.length_append, List.length_take, List.length_drop, List.length_cons, List.length_nil, maxLen]); omega) (by (try simp only [List.length_append, List.length_take, List.length_drop, List.length_cons, List.length_nil, maxLen]); omega)
      refine L_valW hF (by kernel_rfl) (by kernel_rfl) (x_app hap rfl (by kernel_rfl) (by kernel_rfl) rfl) (by kernel_rfl) ?_
      clear hap hF; intro a hF; replace hO := hO1; clear hO1
      refine Vp hF (.slice p10 ((zc ++ ([0] : List UInt8)).length) cap10) ?_; clear hF; intro a hF
      refine L_nil ?_
      refine block_normal ?_
      refine hK_9 ((k + 1, p10, cap10, zc ++ ([0] : List UInt8))) _ _ ((by have hq := congrArg List.length hZ.1; simp only [List.length_append, List.length_replicate, List.length_nil] at hq; dsimp only; omega)) ⟨(by have hq := congrArg List.length hZ.1; simp only [List.length_append, List.length_replicate, List.length_nil] at hq; refine ⟨fill_round hZ.1, ?_⟩; dsimp only; (try simp only [List.length_nil]); omega), ?_, ?_⟩
      · exact hF.restrict ⟨(by kernel_rfl), (by kernel_rfl), (congrArg some (by first | rfl | exact congrArg (Value.int _) (by omega))), (by kernel_rfl), trivial⟩
      · exact hO.sub (.cons_cons _ (.cons _ (.cons_cons _ (.cons_cons _ (List.nil_sublist _)))))
     ·
      replace hF := hF.know (d := 148) (v' := .bool false) (by kernel_rfl) (congrArg Value.bool (decide_eq_false q24))
      refine cond_f hF (by kernel_rfl) (by kernel_rfl) ?_
      refine wp_exit ?_
      refine then_exit ?_
      refine then_exit ?_
      refine inBlock_hit ?_
      refine hK83 _ _ ?_
      refine wp_seq_k fun K86 hK86 => ?_
      refine wp_region_lit ?_
      refine Vp hF (.agg zTParseT) ?_; clear hF; intro a hF
      refine L_new hF hO (by kernel_rfl) (by kernel_rfl) (vf := fun b => .pointer (some ⟨b, 0, none⟩)) (ob := .cells zFParseT 33) (by kernel_rfl) (by kernel_rfl) ?_
      clear hF hO; intro b14 W45 a hO hF
      obtain ⟨W46, hst, hO1⟩ := run_storeAt (P := Tryz.prog) (k := 17) (T := 33) (off := 0) (v := .agg zTParseT) (cs := zFParseT) (cs' := zTParseT) hO (by kernel_rfl) (by kernel_rfl) (by kernel_rfl) (Nat.le_of_ble_eq_true (by kernel_rfl)) (by kernel_rfl) (.head _)
      refine L_skip hF (by kernel_rfl) (by kernel_rfl) (x_store (p := .pointer (some ⟨b14, 0, none⟩)) (v := .agg zTParseT) rfl (by kernel_rfl) (by kernel_rfl) hst) (by kernel_rfl) ?_
      clear hst hF; intro a hF; replace hO := hO1; clear hO1
      refine L_nil ?_
      refine hK86 _ _ ?_
      refine wp_seq_k fun K87 hK87 => ?_
      refine A_start (fun Wx => Own W noX [.blk b3 (.cells #[] 5 (0, 0))] Wx) (by kernel_rfl) ?_
      replace hO := hO.drewN 1
      generalize hWd : ({ W46 with drawn := W46.drawn + 1 } : World) = W46_d at hO ⊢; clear hWd
      have hS := hO.sub (.cons _ (.cons _ (.cons_cons _ (List.nil_sublist _))))
      refine Tk 0 rfl hF (.pointer (some ⟨b14, 1, none⟩)) (fun Wx _ => by kernel_rfl) hS ?_; clear hF; intro a hF
      refine Tk 1 rfl hF (.slice (some ⟨b14, 1, none⟩) 16 16) (fun Wx _ => (x_slArr (b := b14) (off := 1) (n := 16) (elem := 5) (lo := 0) (hi := 16) rfl (by kernel_rfl) (by kernel_rfl) (by kernel_rfl) rfl rfl (by omega) (by omega) (by omega) (by kernel_rfl) (by first | rfl | omega) (by first | rfl | omega))) hS ?_; clear hF; intro a hF
      refine Tk 2 rfl hF (.slice zq zc.length zqc) (fun Wx _ => by kernel_rfl) hS ?_; clear hF; intro a hF
      refine Tk 3 rfl hF (.slice (some ⟨b3, 0, none⟩) 0 0) (fun Wx _ => by kernel_rfl) hS ?_; clear hF; intro a hF
      refine A_one (i := 4) (listed' := #[true, true, true, true, true, false]) (by kernel_rfl) rfl (by kernel_rfl) ?_
      obtain ⟨p11, cap11, W47, hap, hO1, -⟩ := run_append_row (P := Tryz.prog) (ty := 46) (t := 46) (z := .int .u8 0) (k := 1) (bytes := 1) (q := some ⟨b3, 0, none⟩) (ys := ([] : List UInt8)) (cq := 0) hO (.tail (.head _)) (by kernel_rfl) (by kernel_rfl) (by kernel_rfl) (by decide) (fun _ => rfl) (fun _ => rfl) (SlAt.blk hO (List.mem_cons_of_mem _ (List.mem_cons_of_mem _ List.mem_cons_self)) (by kernel_rfl)) (by (try simp only [List.length_append, List.length_take, List.length_drop, List.length_cons, List.length_nil, maxLen]); (first | omega | (have hcb := cutF_bd s j; omega) | (obtain rfl : j = 0 := (by omega); have hcb := cutF_bd s 0; omega) | ((try simp only [maxLen] at *); omega) | (have hq := congrArg List.length hZ.1; (try simp only [List.length_append, List.length_replicate, List.length_nil] at *); (try simp only [maxLen] at *); omega))) (by (try simp only [List.length_append, List.length_take, List.length_drop, List.length_cons, List.length_nil, maxLen]); (first | omega | (have hcb := cutF_bd s j; omega) | (obtain rfl : j = 0 := (by omega); have hcb := cutF_bd s 0; omega) | ((try simp only [maxLen] at *); omega) | (have hq := congrArg List.length hZ.1; (try simp only [List.length_append, List.length_replicate, List.length_nil] at *); (try simp only [maxLen] at *); omega)))
      refine OpK.valW hF (by kernel_rfl) (by kernel_rfl) (x_app hap rfl (by kernel_rfl) (by kernel_rfl) rfl) (by kernel_rfl) ?_
      clear hap hF; intro a hF; replace hO := hO1; clear hO1
      refine ⟨hO.sub (.cons _ (.cons _ (.cons_cons _ (List.nil_sublist _)))), ?_⟩
      refine A_one (i := 5) (listed' := #[true, true, true, true, true, true]) (by kernel_rfl) rfl (by kernel_rfl) ?_
      replace hO := hO.reblk (cs := zTParseT) (cs' := (ipL sixIp).toArray) (by kernel_rfl) (.tail (.head _))
      obtain ⟨W48, hst, hO1⟩ := run_copy_ip (P := Tryz.prog) (e := 5) (t := 46) (ty := 3) (j := 0) (n := 16) (c := 16) (off := 1) (cq := cap11) (q := p11) (A := zc ++ ([] : List UInt8)) hO (.tail (.head _)) (by kernel_rfl) (by kernel_rfl) (hO.row List.mem_cons_self) (by (first | omega | (have hcb := cutF_bd s j; omega) | (obtain rfl : j = 0 := (by omega); have hcb := cutF_bd s 0; omega) | ((try simp only [maxLen] at *); omega) | (have hq := congrArg List.length hZ.1; (try simp only [List.length_append, List.length_replicate, List.length_nil] at *); (try simp only [maxLen] at *); omega))) (by (first | omega | (have hcb := cutF_bd s j; omega) | (obtain rfl : j = 0 := (by omega); have hcb := cutF_bd s 0; omega) | ((try simp only [maxLen] at *); omega) | (have hq := congrArg List.length hZ.1; (try simp only [List.length_append, List.length_replicate, List.length_nil] at *); (try simp only [maxLen] at *); omega))) (by (try unfold arrOff); intros; (try split) <;> (first | omega | (have hcb := cutF_bd s j; omega) | (obtain rfl : j = 0 := (by omega); have hcb := cutF_bd s 0; omega) | ((try simp only [maxLen] at *); omega) | (have hq := congrArg List.length hZ.1; (try simp only [List.length_append, List.length_replicate, List.length_nil] at *); (try simp only [maxLen] at *); omega)))
      refine OpK.valW hF (by kernel_rfl) (by kernel_rfl) (x_copy hst rfl (by kernel_rfl) (by kernel_rfl) rfl) (by kernel_rfl) ?_
      clear hst hF; intro a hF; replace hO := hO1; clear hO1
      refine ⟨hO.sub (.cons _ (.cons _ (.cons_cons _ (List.nil_sublist _)))), ?_⟩
      refine A_done (by kernel_rfl) ?_
      refine hK87 _ _ ?_
      refine wp_seq_k fun K88 hK88 => ?_
      refine wp_region_lit ?_
      refine Vr hF (ipV (sixIp.cpy 0 (zc ++ ([] : List UInt8)))) (x_load (p := .pointer (some ⟨b14, 0, none⟩)) rfl (by kernel_rfl) (run_loadA (k := 17) (by kernel_rfl) (by kernel_rfl) (hO.blk (List.mem_cons_of_mem _ List.mem_cons_self)) (by kernel_rfl) (by kernel_rfl))) ?_; clear hF; intro a hF
      obtain ⟨W49, hst, hO1⟩ := run_storeAt (P := Tryz.prog) (k := 17) (T := 33) (off := 0) (v := ipV (sixIp.cpy 0 (zc ++ ([] : List UInt8)))) (cs := zFParseT) (cs' := (ipL (sixIp.cpy 0 (zc ++ ([] : List UInt8)))).toArray) hO (by kernel_rfl) (by kernel_rfl) (by kernel_rfl) (Nat.le_of_ble_eq_true (by kernel_rfl)) (by kernel_rfl) (.tail (.tail (.tail (.head _))))
      refine L_skip hF (by kernel_rfl) (by kernel_rfl) (x_store (p := .pointer (some ⟨b1, 0, none⟩)) (v := ipV (sixIp.cpy 0 (zc ++ ([] : List UInt8)))) rfl (by kernel_rfl) (by kernel_rfl) hst) (by kernel_rfl) ?_
      clear hst hF; intro a hF; replace hO := hO1; clear hO1
      refine Vp hF (.bool true) ?_; clear hF; intro a hF
      refine L_nil ?_
      refine hK88 _ _ ?_
      refine wp_ret ?_
      refine ret2 hF (v := ipV (sixIp.cpy 0 (zc ++ ([] : List UInt8)))) (u := .bool true) rfl (resC (ad := ⟨b1, 0, none⟩) (by kernel_rfl) (run_loadA (k := 17) (by kernel_rfl) (by kernel_rfl) (hO.blk (List.mem_cons_of_mem _ (List.mem_cons_of_mem _ (List.mem_cons_of_mem _ List.mem_cons_self)))) (by kernel_rfl) (by kernel_rfl))) (resT (by kernel_rfl)) (by refine ⟨?_, hO.nil⟩; (obtain rfl : j = 0 := (by omega); first | (rw [parS_bad1 hc hcut (piece_bad (i := ia) (by omega) (by omega) (by assumption))]; rfl) | (rw [parS_bad2 hc hcut (piece_bad (i := ib) (by omega) (by omega) (by assumption))]; rfl) | (rw [parS_len hc hcut (by first | exact piece_ok (i := ia) (by omega) (by omega) hA | exact piece_nil (by omega)) (by first | exact piece_ok (i := ib) (by omega) (by omega) hB | exact piece_nil (by omega)) (by (try simp only [List.length_nil]); omega)]; rfl) | (rw [parS_ok hc hcut (by first | exact piece_ok (i := ia) (by omega) (by omega) hA | exact piece_nil (by omega)) (by first | exact piece_ok (i := ib) (by omega) (by omega) hB | exact piece_nil (by omega)) (by (try simp only [List.length_nil]); omega) hZ.1 (by have hq := congrArg List.length hZ.1; have hz2 := hZ.2; simp only [List.length_append, List.length_replicate, List.length_nil] at hq hz2 ⊢; omega)]; rfl))) .ret (.inl rfl)

theorem ref02_Parse (s : ByteArray) (W : World) (hs : s.size ≤ 1000000) : Ret Tryz.prog 31 #[.string s] W fun v W' => v = retOk (parseIp s) ∧ Own W noX [] W' := by
  cases hc : hasC s with
  | false => exact ref02_ParseD s W hs hc
  | true =>
    by_cases hcut : cutF s 0 < 0
    · exact ref02_ParseN s W hs hc hcut
    · exact ref02_ParseS s W hs hc hcut
end Go.Proofs.YthellfigmpjhlaaGreatDoor
