/- The texts of addresses, as plain functions, and that they are read back. -/
import Derived.Test.YthellfigmpjhlaaGreatDoorSpl
import Derived.Test.YthellfigmpjhlaaGreatDoorAddrP
import Derived.Test.YthellfigmpjhlaaGreatDoorCmp
import Derived.Test.YthellfigmpjhlaaGreatDoorBytes
namespace Go.Proofs.YthellfigmpjhlaaGreatDoor
open Go Go.RowKit
set_option linter.unusedVariables false
set_option linter.unusedSimpArgs false

/-! ### A text of groups is read back -/
def grpL (l : List UInt8) : Int := if l.length = 0 ∨ l.length > 4 then -1 else grpGo (Lib.toLowerA l) 0
theorem grpGo_dig {d : Nat} (h : d < 16) (t : List UInt8) (n : Int) : grpGo (hexDig d :: t) n = grpGo t (n * 16 + d) := by
  have e : Lib.indexByte hexS.data.toList (hexDig d) = (d : Int) := (dig_at h).2.1
  rw [grpGo, e, if_neg (by omega)]
theorem low_dig {d : Nat} (h : d < 16) (t : List UInt8) : Lib.toLowerA (hexDig d :: t) = hexDig d :: Lib.toLowerA t := by
  unfold Lib.toLowerA
  rw [List.map_cons, (dig_at h).1]
theorem grpL_hex {n : Nat} (h : n < 65536) : grpL (hexT n) = (n : Int) := by
  have hl := hexT_len n
  unfold grpL
  rw [if_neg (by omega)]
  clear hl
  unfold hexT
  split
  · rw [low_dig (by omega), grpGo_dig (by omega)]; simp [Lib.toLowerA, grpGo]
  split
  · rw [low_dig (by omega), low_dig (by omega), grpGo_dig (by omega), grpGo_dig (by omega)]; simp only [Lib.toLowerA, grpGo, List.map_nil]; omega
  split
  · rw [low_dig (by omega), low_dig (by omega), low_dig (by omega), grpGo_dig (by omega), grpGo_dig (by omega), grpGo_dig (by omega)]; simp only [Lib.toLowerA, grpGo, List.map_nil]; omega
  · rw [low_dig (by omega), low_dig (by omega), low_dig (by omega), low_dig (by omega), grpGo_dig (by omega), grpGo_dig (by omega), grpGo_dig (by omega), grpGo_dig (by omega)]; simp only [Lib.toLowerA, grpGo, List.map_nil]; omega
def be2 (n : Nat) : List UInt8 := [UInt8.ofNat (n / 256), UInt8.ofNat n]
def beI (n : Int) : List UInt8 := [UInt8.ofNat (n.fdiv 256 % 256).toNat, UInt8.ofNat (n % 256).toNat]
theorem beI_nat {n : Nat} (h : n < 65536) : beI (n : Int) = be2 n := by
  have e : (n : Int).fdiv 256 = ((n / 256 : Nat) : Int) := by rw [Int.fdiv_eq_ediv_of_nonneg _ (by omega)]; omega
  unfold beI be2
  rw [e, show (((n / 256 : Nat) : Int) % 256).toNat = n / 256 by omega, show ((n : Int) % 256).toNat = n % 256 by omega]
  congr 2
  apply UInt8.toNat_inj.1
  simp
def rowOkL (l : List UInt8) : Bool := decide (l.length = 0 ∨ ∀ x ∈ spl 58 l, 0 ≤ grpL x)
def rowBL (l : List UInt8) : List UInt8 := if l.length = 0 then [] else if rowOkL l then (spl 58 l).flatMap (fun x => beI (grpL x)) else []
theorem txtJ_nil {g : Nat → Nat} {a n : Nat} (h : (txtJ g a n).length = 0) (hg : ∀ j, g j < 65536) : n = 0 := by
  cases n with
  | zero => rfl
  | succ n =>
    rw [txtJ_next, List.length_append] at h
    have := (hexT_len (g (a + n))).1
    omega
theorem txtJ_els {g : Nat → Nat} {a n : Nat} (hg : ∀ j, g j < 65536) : ∀ x ∈ (List.range' a n).map (fun j => hexT (g j)), (58 : UInt8) ∉ x ∧ x ≠ [] := by
  intro x hx
  obtain ⟨j, _, rfl⟩ := List.mem_map.1 hx
  exact hexT_ok (hg j)
theorem txtJ_spl {g : Nat → Nat} {a n : Nat} (hg : ∀ j, g j < 65536) (hn : n ≠ 0) : spl 58 (txtJ g a n) = (List.range' a n).map fun j => hexT (g j) :=
  spl_join (by simpa using hn) fun x hx => (txtJ_els hg x hx).1
theorem row_txt {g : Nat → Nat} (a n : Nat) (hg : ∀ j, g j < 65536) : rowOkL (txtJ g a n) = true ∧ rowBL (txtJ g a n) = (List.range' a n).flatMap fun j => be2 (g j) := by
  by_cases h : (txtJ g a n).length = 0
  · obtain rfl := txtJ_nil h hg
    exact ⟨by simp [rowOkL, txtJ, Lib.join_nil], by simp [rowBL, txtJ, Lib.join_nil]⟩
  · have hn : n ≠ 0 := fun e => h (by subst e; simp [txtJ, Lib.join_nil])
    have ok : rowOkL (txtJ g a n) = true := by
      unfold rowOkL
      rw [decide_eq_true_iff, txtJ_spl hg hn]
      refine .inr fun x hx => ?_
      obtain ⟨j, _, rfl⟩ := List.mem_map.1 hx
      rw [grpL_hex (hg j)]; omega
    refine ⟨ok, ?_⟩
    unfold rowBL
    rw [if_neg h, ok, if_pos rfl, txtJ_spl hg hn, List.flatMap_map]
    congr 1
    funext j
    rw [grpL_hex (hg j), beI_nat (hg j)]
theorem be2_len (g : Nat → Nat) (a n : Nat) : ((List.range' a n).flatMap fun j => be2 (g j)).length = 2 * n := by
  induction n generalizing a with
  | zero => rfl
  | succ n ih => rw [List.range'_succ, List.flatMap_cons, List.length_append, ih]; simp [be2]; omega
theorem be2_zero {g : Nat → Nat} : ∀ {n a : Nat}, (∀ j, a ≤ j → j < a + n → g j = 0) → ((List.range' a n).flatMap fun j => be2 (g j)) = List.replicate (2 * n) 0
  | 0, _, _ => rfl
  | n + 1, a, h => by
    rw [List.range'_succ, List.flatMap_cons, h a (Nat.le_refl _) (by omega), be2_zero (n := n) (a := a + 1) fun j h1 h2 => h j (by omega) (by omega)]
    rw [show 2 * (n + 1) = (2 * n + 1) + 1 by omega, List.replicate_succ, List.replicate_succ]; rfl
/-- Head and tail, laid into sixteen noughts. -/
theorem over_gap (P S : List UInt8) (h : P.length + S.length ≤ 16) : over (over (List.replicate 16 0) 0 P) (16 - S.length) S = P ++ List.replicate (16 - P.length - S.length) 0 ++ S := by
  have h1 : over (List.replicate 16 (0 : UInt8)) 0 P = P ++ List.replicate (16 - P.length) 0 := by
    unfold over
    rw [List.take_zero, List.nil_append, List.drop_replicate, Nat.zero_add]
  rw [h1]
  unfold over
  rw [List.take_append, List.drop_append, List.take_of_length_le (by omega), List.take_replicate, List.drop_of_length_le (by omega), List.drop_replicate]
  rw [show min (16 - S.length - P.length) (16 - P.length) = 16 - P.length - S.length by omega, show 16 - P.length - (16 - S.length + S.length - P.length) = 0 by omega]
  simp
theorem parts {g : Nat → Nat} {f m : Nat} (h : f + m ≤ 8) (hz : ∀ j, f ≤ j → j < f + m → g j = 0) : ((List.range' 0 f).flatMap fun j => be2 (g j)) ++ List.replicate (2 * m) 0 ++ ((List.range' (f + m) (8 - (f + m))).flatMap fun j => be2 (g j)) = (List.range' 0 8).flatMap fun j => be2 (g j) := by
  rw [← be2_zero hz, ← List.flatMap_append, ← List.flatMap_append]
  congr 1
  have e1 : List.range' 0 f ++ List.range' f m = List.range' 0 (f + m) := by
    have := List.range'_append (s := 0) (m := f) (n := m) (step := 1); simpa using this
  rw [e1]
  have := List.range'_append (s := 0) (m := f + m) (n := 8 - (f + m)) (step := 1)
  simp only [Nat.one_mul, Nat.zero_add] at this
  rw [this, show f + m + (8 - (f + m)) = 8 by omega]

/-! ### The gap -/
def atN (x : Ip) (j : Nat) : Nat := (atIp x j).toNat
theorem atN_eq (x : Ip) (j : Nat) : (atN x j : Int) = atIp x j := by have := atIp_bd x j; unfold atN; omega
theorem atN_lt (x : Ip) (j : Nat) : atN x j < 65536 := by have := atIp_bd x j; unfold atN; omega
def pat (a b c d e f g h : Bool) (j : Nat) : Bool := [a, b, c, d, e, f, g, h].getD j false
def zP (x : Ip) : Nat → Bool := pat (decide (atIp x 0 = 0)) (decide (atIp x 1 = 0)) (decide (atIp x 2 = 0)) (decide (atIp x 3 = 0)) (decide (atIp x 4 = 0)) (decide (atIp x 5 = 0)) (decide (atIp x 6 = 0)) (decide (atIp x 7 = 0))
theorem zP_eq (x : Ip) : ∀ j, j < 8 → zP x j = decide (atIp x j = 0)
  | 0, _ => rfl
  | 1, _ => rfl
  | 2, _ => rfl
  | 3, _ => rfl
  | 4, _ => rfl
  | 5, _ => rfl
  | 6, _ => rfl
  | 7, _ => rfl
  | n + 8, h => absurd h (by omega)
def nzP (p : Nat → Bool) : Nat → Nat × Nat × Nat
  | 0 => (0, 0, 0)
  | i + 1 => if (if p i then (nzP p i).2.2 + 1 else 0) > (nzP p i).2.1 then (i + 1 - (if p i then (nzP p i).2.2 + 1 else 0), (if p i then (nzP p i).2.2 + 1 else 0), (if p i then (nzP p i).2.2 + 1 else 0)) else ((nzP p i).1, (nzP p i).2.1, (if p i then (nzP p i).2.2 + 1 else 0))
theorem nzP_le (p : Nat → Bool) : ∀ i, (nzP p i).2.2 ≤ i
  | 0 => Nat.le_refl _
  | i + 1 => by
    have := nzP_le p i
    unfold nzP
    split <;> split <;> simp only <;> omega
theorem nz_P (x : Ip) : ∀ i, i ≤ 8 → nz x i = (((nzP (zP x) i).1 : Int), ((nzP (zP x) i).2.1 : Int), ((nzP (zP x) i).2.2 : Int))
  | 0, _ => rfl
  | i + 1, h => by
    have ih := nz_P x i (by omega)
    have hl := nzP_le (zP x) i
    have hz := zP_eq x i (by omega)
    rw [nz, ih, nzP, nzStep, hz]
    by_cases h0 : atIp x i = 0
    · rw [if_pos h0, decide_eq_true h0]
      simp only [if_true]
      by_cases h1 : (nzP (zP x) i).2.2 + 1 > (nzP (zP x) i).2.1
      · rw [if_pos h1, if_pos (by omega)]
        simp only [Prod.mk.injEq]; omega
      · rw [if_neg h1, if_neg (by omega)]
        simp
    · rw [if_neg h0, decide_eq_false h0]
      simp only [Bool.false_eq_true, if_false]
      rw [if_neg (by omega), if_neg (by omega)]
      simp
/-- The reference's search. -/
def zrun (p : Nat → Bool) : Nat → Nat → Nat
  | 0, _ => 0
  | k + 1, i => if p i then zrun p k (i + 1) + 1 else 0
def blP (p : Nat → Bool) : Nat → Nat × Nat
  | 0 => (0, 1)
  | i + 1 => if zrun p (8 - i) i > (blP p i).2 then (i, zrun p (8 - i) i) else blP p i
def gapOk (p : Nat → Bool) : Bool :=
  decide ((nzP p 8).1 + (nzP p 8).2.1 ≤ 8) && (if (nzP p 8).2.1 < 2 then (blP p 8).2 == 1 else blP p 8 == ((nzP p 8).1, (nzP p 8).2.1)) && (List.range 8).all fun j => !(decide ((nzP p 8).1 ≤ j) && decide (j < (nzP p 8).1 + (nzP p 8).2.1)) || p j
set_option maxRecDepth 20000 in
theorem gap_all : ∀ a b c d e f g h : Bool, gapOk (pat a b c d e f g h) = true := by decide +kernel
def gapF (x : Ip) : Nat := (nzP (zP x) 8).1
def gapM (x : Ip) : Nat := (nzP (zP x) 8).2.1
theorem gap (x : Ip) : gapF x + gapM x ≤ 8 ∧ (gapM x < 2 → (blP (zP x) 8).2 = 1) ∧ (2 ≤ gapM x → blP (zP x) 8 = (gapF x, gapM x)) ∧ ∀ j, gapF x ≤ j → j < gapF x + gapM x → atN x j = 0 := by
  have h : gapOk (zP x) = true := gap_all _ _ _ _ _ _ _ _
  unfold gapOk at h
  simp only [Bool.and_eq_true, decide_eq_true_eq, List.all_eq_true, List.mem_range] at h
  obtain ⟨⟨h1, h2⟩, h3⟩ := h
  refine ⟨h1, fun hm => ?_, fun hm => ?_, fun j hj1 hj2 => ?_⟩
  · rw [if_pos (show (nzP (zP x) 8).2.1 < 2 from hm)] at h2; exact beq_iff_eq.1 h2
  · rw [if_neg (show ¬ (nzP (zP x) 8).2.1 < 2 by unfold gapM at hm; omega)] at h2; exact beq_iff_eq.1 h2
  · have hj : j < 8 := Nat.lt_of_lt_of_le hj2 h1
    have := h3 j hj
    rw [zP_eq x j hj, show decide ((nzP (zP x) 8).1 ≤ j) = true from decide_eq_true hj1, show decide (j < (nzP (zP x) 8).1 + (nzP (zP x) 8).2.1) = true from decide_eq_true hj2] at this
    have : atIp x j = 0 := by simpa using this
    unfold atN; omega

/-! ### The text -/
def rightIp (x : Ip) : Bool := x.six || decide (∀ b ∈ (x.bytes.drop 4).take 12, b = 0)
def fmtSix (x : Ip) : List UInt8 := preF (atN x) (gapF x) (gapM x) 8
def fmtFour (x : Ip) : List UInt8 := Lib.join ((x.bytes.take 4).map fun b => decT b.toNat) [46]
def fmtL (x : Ip) : List UInt8 := if rightIp x then (if x.six then fmtSix x else fmtFour x) else []
def fmtS (x : Ip) : ByteArray := ⟨(fmtL x).toArray⟩

/-! ### Parsing over lists -/
theorem splitOn_spl (s : ByteArray) (c : UInt8) : (splitOn s c).map (·.data.toList) = spl c s.data.toList := by
  unfold splitOn
  rw [Lib.splitB_data]
  exact spl_index c _ _ (Lib.count_one c _).symm
theorem splitOn_mem {s : ByteArray} {c : UInt8} {p : List UInt8 → Prop} : (∀ x ∈ splitOn s c, p x.data.toList) ↔ ∀ l ∈ spl c s.data.toList, p l := by
  rw [← splitOn_spl]
  simp
theorem grpP_L (s : ByteArray) : grpP s = grpL s.data.toList := by
  unfold grpP grpL lowS
  rfl
theorem grpB_L (s : ByteArray) : grpB s = beI (grpL s.data.toList) := by
  unfold grpB beI ub
  rw [grpP_L]
theorem rowOk_L (s : ByteArray) : rowOk s = rowOkL s.data.toList := by
  unfold rowOk rowOkL
  rw [Bool.eq_iff_iff, decide_eq_true_iff, decide_eq_true_iff, ← splitOn_mem (p := fun l => 0 ≤ grpL l)]
  simp only [grpP_L]; rfl
theorem rowB_L (s : ByteArray) : rowB s = rowBL s.data.toList := by
  unfold rowB rowBL
  rw [rowOk_L, ← splitOn_spl, List.flatMap_map]
  have : grpB = fun a : ByteArray => beI (grpL a.data.toList) := funext grpB_L
  rw [this]; rfl
def layIp (h t : List UInt8) : Ip := (sixIp.cpy 0 (rowBL h)).cpy (16 - ((rowBL t).length : Int)).toNat (rowBL t)
def pSix (l : List UInt8) : Option Ip := match cutC l with
  | some (h, t) => if rowOkL h && rowOkL t && decide ((rowBL h).length + (rowBL t).length ≤ 14) then some (layIp h t) else none
  | none => if rowOkL l && decide (l.length ≠ 0) && decide ((rowBL l).length = 16) then some (layIp l []) else none
theorem colP_L (s : ByteArray) : colP s = pSix s.data.toList := by
  have hc := cutC_index s.data.toList
  have hs : s.size = s.data.toList.length := rfl
  unfold colP colOk colIp pSix layIp cutH cutT cutY
  simp only [rowOk_L, rowB_L, hs, hc]
  cases h : cutC s.data.toList with
  | none => simp [rowOkL, rowBL]
  | some p =>
    have hne : s.data.toList.length ≠ 0 := fun e => by rw [List.length_eq_zero_iff] at e; rw [e] at h; simp [cutC] at h
    have hne' : ¬ s = ByteArray.empty := fun e => hne (by rw [e]; rfl)
    simp [hne']
theorem hasC_iff (s : ByteArray) : hasC s = true ↔ (58 : UInt8) ∈ s.data.toList := by
  unfold hasC
  rw [decide_eq_true_iff]
  generalize s.data.toList = l
  induction l with
  | nil => simp [Lib.indexByte]
  | cons b l ih =>
    have := Lib.indexByte_ge l 58
    by_cases h : b = 58
    · simp [Lib.indexByte, h]
    · have hb : (b == 58) = false := by simpa using h
      simp only [Lib.indexByte, hb, Bool.false_eq_true, if_false, List.mem_cons]
      rw [← ih]
      constructor
      · intro hh
        refine .inr ?_
        by_cases e : Lib.indexByte l 58 = -1
        · rw [if_pos (by simpa using e)] at hh; omega
        · omega
      · rintro (e | hh)
        · exact absurd e.symm h
        · rw [if_neg (by simp; omega)]; omega
def decL (l : List UInt8) : Int := match Lib.parseUintB 8 l with | .ok u => if l.length > 3 ∨ ¬ Lib.itoa (u : Int) = l then -1 else (u : Int) | _ => -1
theorem decP_L (s : ByteArray) : decP s = decL s.data.toList := by
  unfold decP decL
  have e : ∀ u : Nat, ((⟨(Lib.itoa (u : Int)).toArray⟩ : ByteArray) = s) ↔ (Lib.itoa (u : Int) = s.data.toList) := fun u => by
    constructor
    · intro h; rw [← h]
    · intro h; rw [h]
  split
  · rename_i u hu; rw [hu]; simp only [e]; rfl
  · rename_i h
    split
    · rename_i u hu; exact absurd hu (h u)
    · rfl
def pFour (l : List UInt8) : Option Ip := match (spl 46 l).map decL with
  | [a, b, c, d] => if 0 ≤ a ∧ 0 ≤ b ∧ 0 ≤ c ∧ 0 ≤ d then some ⟨false, ub a, ub b, ub c, ub d, 0, 0, 0, 0, 0, 0, 0, 0, 0, 0, 0, 0⟩ else none
  | _ => none
theorem dotP_L (s : ByteArray) : dotP s = pFour s.data.toList := by
  unfold dotP pFour
  rw [← splitOn_spl]
  have hf : decP = fun x : ByteArray => decL x.data.toList := funext decP_L
  have hm : ((splitOn s 46).map (·.data.toList)).map decL = (splitOn s 46).map decP := by rw [List.map_map, hf]; rfl
  rw [hm]
  generalize splitOn s 46 = L
  match L with
  | [a, b, c, d] =>
    simp only [List.map_cons, List.map_nil, List.length_cons, List.length_nil, List.mem_cons, List.not_mem_nil, or_false, forall_eq_or_imp, forall_eq]
    by_cases h : 0 ≤ decP a ∧ 0 ≤ decP b ∧ 0 ≤ decP c ∧ 0 ≤ decP d
    · rw [if_pos ⟨trivial, h⟩, if_pos h]; rfl
    · rw [if_neg (fun e => h e.2), if_neg h]
  | [] => simp
  | [a] => simp
  | [a, b] => simp
  | [a, b, c] => simp
  | a :: b :: c :: d :: e :: r => simp
theorem parseIp_L (s : ByteArray) : parseIp s = if (58 : UInt8) ∈ s.data.toList then pSix s.data.toList else pFour s.data.toList := by
  unfold parseIp
  rw [colP_L, dotP_L]
  by_cases h : (58 : UInt8) ∈ s.data.toList
  · rw [if_pos h, if_pos ((hasC_iff s).2 h)]
  · rw [if_neg h, if_neg (fun e => h ((hasC_iff s).1 e))]

/-! ### Back -/
theorem sixB (x : Ip) : x.bytes = (List.range' 0 8).flatMap fun j => be2 (atN x j) := by
  have h : ∀ a b : UInt8, be2 (((a.toNat : Int) * 256 + (b.toNat : Int)).toNat) = [a, b] := fun a b => by
    have ha := a.toNat_lt
    have hb := b.toNat_lt
    have e : ((a.toNat : Int) * 256 + (b.toNat : Int)).toNat = a.toNat * 256 + b.toNat := by omega
    unfold be2
    rw [e, show (a.toNat * 256 + b.toNat) / 256 = a.toNat by omega]
    congr 1
    · exact UInt8.toNat_inj.1 (by simp)
    · congr 1
      exact UInt8.toNat_inj.1 (by simp)
  have e : (List.range' 0 8).flatMap (fun j => be2 (atN x j)) = be2 (atN x 0) ++ (be2 (atN x 1) ++ (be2 (atN x 2) ++ (be2 (atN x 3) ++ (be2 (atN x 4) ++ (be2 (atN x 5) ++ (be2 (atN x 6) ++ (be2 (atN x 7) ++ []))))))) := rfl
  rw [e]
  unfold atN atIp
  rw [h, h, h, h, h, h, h, h]
  rfl
theorem six0_bytes : sixIp.bytes = List.replicate 16 0 := rfl
theorem cpy_bytes {x : Ip} {j : Nat} {A : List UInt8} (h : j + A.length ≤ 16) : (x.cpy j A).bytes = over x.bytes j A := by
  unfold Ip.cpy
  exact Ip.bytes_of _ _ (by unfold over; simp [Ip.bytes_len]; omega)
theorem lay_bytes {h t : List UInt8} (hl : (rowBL h).length + (rowBL t).length ≤ 16) : (layIp h t).bytes = rowBL h ++ List.replicate (16 - (rowBL h).length - (rowBL t).length) 0 ++ rowBL t := by
  unfold layIp
  have e : (16 - ((rowBL t).length : Int)).toNat = 16 - (rowBL t).length := by omega
  rw [e, cpy_bytes (by omega), cpy_bytes (by omega), six0_bytes, over_gap _ _ hl]
theorem lay_six (h t : List UInt8) : (layIp h t).six = true := rfl
theorem txtJ_colon {g : Nat → Nat} (a : Nat) : (58 : UInt8) ∈ txtJ g a 8 := by
  rw [txtJ_next]
  simp
theorem fmtSix_colon (x : Ip) : (58 : UInt8) ∈ fmtSix x := by
  unfold fmtSix preF
  split
  · exact txtJ_colon 0
  · simp
theorem txtJ_dbl {g : Nat → Nat} {a n : Nat} (hg : ∀ j, g j < 65536) : noDbl (txtJ g a n) = true := noDbl_join (txtJ_els hg)
theorem pSix_fmt (x : Ip) (h6 : x.six = true) : pSix (fmtSix x) = some x := by
  obtain ⟨h1, -, -, h4⟩ := gap x
  have hg := atN_lt x
  unfold fmtSix preF
  by_cases hm : gapM x < 2
  · rw [if_pos (.inl hm)]
    have hr := row_txt 0 8 hg
    unfold pSix
    rw [cutC_none (txtJ_dbl hg), hr.1]
    have hl : (rowBL (txtJ (atN x) 0 8)).length = 16 := by rw [hr.2, be2_len]
    have hne : (txtJ (atN x) 0 8).length ≠ 0 := fun e => absurd (txtJ_nil e hg) (by decide)
    simp only [hl, hne, ne_eq, not_false_eq_true, decide_true, Bool.and_self, if_true, Option.some.injEq]
    refine Ip.ext_bytes (by rw [lay_six, h6]) ?_
    have h0 : rowBL [] = [] := rfl
    rw [lay_bytes (by rw [hl, h0]; simp), hl, h0, hr.2, sixB x]
    simp
  · rw [if_neg (by omega)]
    have hr := row_txt 0 (gapF x) hg
    have hs := row_txt (gapF x + gapM x) (8 - (gapF x + gapM x)) hg
    unfold pSix
    rw [cutC_hit (txtJ_dbl hg)]
    have l1 : (rowBL (txtJ (atN x) 0 (gapF x))).length = 2 * gapF x := by rw [hr.2, be2_len]
    have l2 : (rowBL (txtJ (atN x) (gapF x + gapM x) (8 - (gapF x + gapM x)))).length = 2 * (8 - (gapF x + gapM x)) := by rw [hs.2, be2_len]
    simp only [hr.1, hs.1, Bool.and_self, Bool.true_and]
    rw [if_pos (by rw [l1, l2, decide_eq_true_iff]; omega)]
    refine congrArg some (Ip.ext_bytes (by rw [lay_six, h6]) ?_)
    rw [lay_bytes (by rw [l1, l2]; omega), l1, l2, hr.2, hs.2, sixB x, show 16 - 2 * gapF x - 2 * (8 - (gapF x + gapM x)) = 2 * gapM x by omega]
    exact parts h1 h4
theorem decL_dec (b : UInt8) : decL (decT b.toNat) = (b.toNat : Int) := by
  have hb := b.toNat_lt
  obtain ⟨h1, h2⟩ := decT_parse ⟨b.toNat, hb⟩
  unfold decL
  simp only at h1 h2
  rw [h1]
  simp only
  rw [if_neg]
  rw [decT_itoa hb]
  simp; omega
theorem decT_no {c : UInt8} (hc : c = 46 ∨ c = 58) (b : UInt8) : c ∉ decT b.toNat := fun hm => by
  obtain ⟨d, hd, e⟩ := decT_mem b.toNat_lt hm
  have := dig_at (show d < 16 by omega)
  rcases hc with rfl | rfl
  · exact this.2.2.2.1 e.symm
  · exact this.2.2.1 e.symm
theorem ub_toNat (b : UInt8) : ub (b.toNat : Int) = b := by
  have := b.toNat_lt
  exact UInt8.toNat_inj.1 (by unfold ub; simp; omega)
theorem four_bytes (x : Ip) : x.bytes.take 4 = [x.b0, x.b1, x.b2, x.b3] := rfl
theorem join_no {c d : UInt8} (hc : c ≠ d) : ∀ {L : List (List UInt8)}, (∀ x ∈ L, c ∉ x) → c ∉ Lib.join L [d]
  | [], _ => by simp [Lib.join_nil]
  | [x], h => by rw [Lib.join_one]; exact h x (by simp)
  | x :: y :: r, h => by
    rw [join_two, List.mem_append, List.mem_cons]
    rintro (q | q | q)
    · exact h x (by simp) q
    · exact hc q
    · exact join_no hc (L := y :: r) (fun z hz => h z (List.mem_cons_of_mem _ hz)) q
theorem pFour_fmt (x : Ip) (h6 : x.six = false) (hr : rightIp x = true) : pFour (fmtFour x) = some x := by
  unfold pFour fmtFour
  rw [four_bytes, spl_join (by simp) (fun l hl => by
    obtain ⟨b, _, rfl⟩ := List.mem_map.1 hl
    exact decT_no (.inl rfl) b)]
  simp only [List.map_cons, List.map_nil, decL_dec, ub_toNat]
  rw [if_pos (by omega)]
  unfold rightIp at hr
  rw [h6, Bool.false_or, decide_eq_true_iff] at hr
  have e : (x.bytes.drop 4).take 12 = [x.b4, x.b5, x.b6, x.b7, x.b8, x.b9, x.b10, x.b11, x.b12, x.b13, x.b14, x.b15] := rfl
  rw [e] at hr
  simp only [List.mem_cons, List.not_mem_nil, or_false, forall_eq_or_imp, forall_eq] at hr
  obtain ⟨a4, a5, a6, a7, a8, a9, a10, a11, a12, a13, a14, a15⟩ := hr
  cases x
  simp only at *
  subst a4 a5 a6 a7 a8 a9 a10 a11 a12 a13 a14 a15 h6
  rfl
theorem fmtFour_colon (x : Ip) : (58 : UInt8) ∉ fmtFour x := join_no (by decide) fun l hl => by
  obtain ⟨b, _, rfl⟩ := List.mem_map.1 hl
  exact decT_no (.inr rfl) b
/-- What is written is read back. -/
theorem parse_fmt (x : Ip) (h : rightIp x = true) : parseIp (fmtS x) = some x := by
  rw [parseIp_L]
  show (if (58 : UInt8) ∈ fmtL x then pSix (fmtL x) else pFour (fmtL x)) = some x
  unfold fmtL
  rw [if_pos h]
  cases h6 : x.six
  · rw [if_neg (show ¬ (false = true) by simp), if_neg (fmtFour_colon x)]; exact pFour_fmt x h6 h
  · rw [if_pos rfl, if_pos (fmtSix_colon x)]; exact pSix_fmt x h6

/-! ### What the walks of the texts meet -/
def strs (x : Ip) (a n : Nat) : List ByteArray := (List.range' a n).map fun j => ⟨(hexT (atN x j)).toArray⟩
theorem strs_next {x : Ip} {a i : Nat} (h : a ≤ i) : strs x a (i - a) ++ [⟨(hexT (atN x i)).toArray⟩] = strs x a (i + 1 - a) := by
  unfold strs
  rw [show i + 1 - a = (i - a) + 1 by omega, List.range'_concat, List.map_append, List.map_cons, List.map_nil, Nat.one_mul, show a + (i - a) = i by omega]
theorem strs_join (x : Ip) (a n : Nat) : Lib.join ((strs x a n).map (·.data.toList)) [58] = txtJ (atN x) a n := by
  unfold strs txtJ
  rw [List.map_map]; rfl
theorem strs_len (x : Ip) (a n : Nat) : (strs x a n).length = n := by unfold strs; simp
theorem txtJ_len (g : Nat → Nat) (a : Nat) : ∀ n, (txtJ g a n).length ≤ 5 * n
  | 0 => by simp [txtJ, Lib.join_nil]
  | n + 1 => by
    have h1 := (hexT_len (g (a + n))).2
    have h2 := txtJ_len g a n
    have h3 : (if n = 0 then ([] : List UInt8) else [58]).length ≤ 1 := by split <;> simp
    rw [txtJ_next, List.length_append, List.length_append]
    omega
theorem decT_len (n : Nat) : (decT n).length ≤ 3 := by unfold decT; repeat' split
                                                       all_goals simp
def quads (x : Ip) (n : Nat) : List ByteArray := (x.bytes.take n).map fun b => ⟨(Lib.itoa (b.toNat : Int)).toArray⟩
theorem quads_next {x : Ip} {i : Nat} (h : i < 4) : quads x i ++ [⟨(Lib.itoa (((x.at i).toNat : Nat) : Int)).toArray⟩] = quads x (i + 1) := by
  unfold quads
  rw [List.take_add_one, List.map_append]
  congr 1
  have : x.bytes[i]? = some (x.at i) := by
    unfold Ip.at
    rw [List.getD_eq_getElem?_getD, List.getElem?_eq_getElem (by rw [Ip.bytes_len]; omega)]; rfl
  rw [this]; rfl
theorem quads_join (x : Ip) : Lib.join ((quads x 4).map (·.data.toList)) [46] = fmtFour x := by
  unfold quads fmtFour
  rw [List.map_map, four_bytes]
  simp only [List.map_cons, List.map_nil, Function.comp, decT_itoa (UInt8.toNat_lt _)]
theorem fmtFour_len (x : Ip) : (fmtFour x).length ≤ 15 := by
  unfold fmtFour
  rw [four_bytes]
  simp only [List.map_cons, List.map_nil, Lib.join_cons, Lib.joinTail, List.length_append, List.flatten_cons, List.flatten_nil, List.length_cons, List.length_nil]
  have h0 := decT_len x.b0.toNat
  have h1 := decT_len x.b1.toNat
  have h2 := decT_len x.b2.toNat
  have h3 := decT_len x.b3.toNat
  omega
theorem fmtS_four {x : Ip} (h1 : rightIp x = true) (h2 : x.six = false) : fmtS x = ⟨(fmtFour x).toArray⟩ := by unfold fmtS fmtL; rw [if_pos h1, if_neg (by rw [h2]; simp)]
theorem fmtS_six {x : Ip} (h1 : rightIp x = true) (h2 : x.six = true) : fmtS x = ⟨(fmtSix x).toArray⟩ := by unfold fmtS fmtL; rw [if_pos h1, if_pos h2]
theorem fmtS_no {x : Ip} (h1 : rightIp x = false) : fmtS x = ⟨#[]⟩ := by unfold fmtS fmtL; rw [if_neg (by rw [h1]; simp)]
theorem fmtSix_no {x : Ip} (h : gapM x < 2) : fmtSix x = txtJ (atN x) 0 8 := by unfold fmtSix preF; rw [if_pos (.inl h)]
theorem fmtSix_gap {x : Ip} (h : ¬ gapM x < 2) : fmtSix x = txtJ (atN x) 0 (gapF x) ++ [58, 58] ++ txtJ (atN x) (gapF x + gapM x) (8 - (gapF x + gapM x)) := by
  have := (gap x).1
  unfold fmtSix preF; rw [if_neg (by omega)]; simp
theorem nz_gap (x : Ip) : (nz x 8).1 = (gapF x : Int) ∧ (nz x 8).2.1 = (gapM x : Int) := by rw [nz_P x 8 (by omega)]; exact ⟨rfl, rfl⟩
theorem fmtS_len (x : Ip) : (fmtS x).size ≤ 45 := by
  show (fmtL x).length ≤ 45
  unfold fmtL
  split
  · split
    · have := (gap x).1
      by_cases h : gapM x < 2
      · rw [fmtSix_no h]; have := txtJ_len (atN x) 0 8; omega
      · rw [fmtSix_gap h]
        have h1 := txtJ_len (atN x) 0 (gapF x)
        have h2 := txtJ_len (atN x) (gapF x + gapM x) (8 - (gapF x + gapM x))
        simp only [List.length_append, List.length_cons, List.length_nil]
        omega
    · have := fmtFour_len x; omega
  · simp
theorem right_bad {x : Ip} {i : Nat} (h1 : x.six = false) (h2 : 4 ≤ i) (h3 : i < 16) (h4 : ¬ ((x.at i).toNat : Int) = 0) : rightIp x = false := by
  unfold rightIp
  rw [h1, Bool.false_or, decide_eq_false_iff_not]
  intro hh
  refine h4 ?_
  have : x.at i ∈ (x.bytes.drop 4).take 12 := by
    rw [List.mem_iff_getElem?]
    refine ⟨i - 4, ?_⟩
    rw [List.getElem?_take, if_pos (by omega), List.getElem?_drop, show 4 + (i - 4) = i by omega]
    unfold Ip.at
    rw [List.getD_eq_getElem?_getD, List.getElem?_eq_getElem (by rw [Ip.bytes_len]; omega)]; rfl
  rw [hh _ this]; rfl
theorem right_good {x : Ip} (h : ∀ j, 4 ≤ j → j < 16 → x.six = false → x.at j = 0) : rightIp x = true := by
  unfold rightIp
  cases h6 : x.six
  · rw [Bool.false_or, decide_eq_true_iff]
    intro b hb
    obtain ⟨k, hk⟩ := List.mem_iff_getElem?.1 hb
    rw [List.getElem?_take] at hk
    split at hk
    · rw [List.getElem?_drop] at hk
      have := h (4 + k) (by omega) (by omega) h6
      unfold Ip.at at this
      rw [List.getD_eq_getElem?_getD, hk] at this
      exact this
    · cases hk
  · rfl
/-! the reference's -/
theorem cut16 : ∀ d : Fin 16, hexS.extract d.val (d.val + 1) = ⟨#[hexDig d.val]⟩ := by
  intro d
  have : ∀ d : Fin 16, (hexS.extract d.val (d.val + 1)).data = #[hexDig d.val] := by decide
  exact ByteArray.ext (this d)
theorem cut16' {n : Nat} (h : n < 16) : hexS.extract n (n + 1) = ⟨#[hexDig n]⟩ := cut16 ⟨n, h⟩
theorem num_lo {b n : Nat} (h : n < b) (hb : b ≤ 16) : hexS.extract n (n + 1) = ⟨(numT b n).toArray⟩ := by rw [cut16' (by omega), numT_lo h]
theorem num_hi {b n : Nat} (h : ¬ n < b) (hb : 2 ≤ b) (hb' : b ≤ 16) : (⟨(numT b (n / b)).toArray⟩ : ByteArray) ++ hexS.extract (n % b) (n % b + 1) = ⟨(numT b n).toArray⟩ := by
  have := Nat.mod_lt n (show 0 < b by omega)
  rw [cut16' (by omega), numT_hi h hb]
  apply ByteArray.ext
  rw [ByteArray.data_append]; simp
theorem numT_len {b : Nat} (hb : 2 ≤ b) : ∀ (k n : Nat), n < k → (numT b n).length ≤ n + 1
  | 0, _, h => absurd h (Nat.not_lt_zero _)
  | k + 1, n, h => by
    by_cases h1 : n < b
    · rw [numT_lo h1]; simp
    · rw [numT_hi h1 hb, List.length_append]
      have := Nat.div_lt_self (show 0 < n by omega) hb
      have := numT_len hb k (n / b) (by omega)
      simp; omega
def BL (x : Ip) (best long : Int) : Prop := best = ((blP (zP x) 8).1 : Int) ∧ long = ((blP (zP x) 8).2 : Int)
theorem bl_gap {x : Ip} {best long : Int} (h : BL x best long) : (gapM x < 2 ∧ long = 1) ∨ (2 ≤ gapM x ∧ best = (gapF x : Int) ∧ long = (gapM x : Int)) := by
  obtain ⟨-, g1, g2, -⟩ := gap x
  by_cases hm : gapM x < 2
  · exact .inl ⟨hm, by rw [h.2, g1 hm]; rfl⟩
  · exact .inr ⟨by omega, by rw [h.1, g2 (by omega)], by rw [h.2, g2 (by omega)]⟩
def FmtI (x : Ip) (i : Nat) (s : ByteArray) : Prop := i ≤ 8 ∧ s = ⟨(preF (atN x) (gapF x) (gapM x) i).toArray⟩ ∧ (gapM x < 2 ∨ i ≤ gapF x ∨ gapF x + gapM x ≤ i)
theorem fmtI_0 (x : Ip) : FmtI x 0 ⟨#[]⟩ := ⟨by omega, by unfold preF txtJ; rw [if_pos (.inr (Nat.zero_le _))]; simp [Lib.join_nil], .inr (.inl (Nat.zero_le _))⟩
theorem bcat (a b : List UInt8) : (⟨a.toArray⟩ : ByteArray) ++ ⟨b.toArray⟩ = ⟨(a ++ b).toArray⟩ := by
  apply ByteArray.ext
  rw [ByteArray.data_append]; simp
theorem fmtI_gap {x : Ip} {best long : Int} {i : Nat} {s : ByteArray} (hb : BL x best long) (h : FmtI x i s) (h1 : long > 1) (h2 : (i : Int) = best) : FmtI x (gapF x + gapM x) (s ++ ⟨#[58, 58]⟩) ∧ (i : Int) + (long - 1) + 1 = ((gapF x + gapM x : Nat) : Int) ∧ i < gapF x + gapM x := by
  obtain ⟨-, hs, -⟩ := h
  rcases bl_gap hb with ⟨hm, hl⟩ | ⟨hm, hf, hl⟩
  · omega
  · obtain rfl : i = gapF x := by omega
    refine ⟨⟨(gap x).1, ?_, .inr (.inr (Nat.le_refl _))⟩, by omega, by omega⟩
    rw [hs, pre_gap hm, ← bcat]
theorem fmtI_next {x : Ip} {best long : Int} {i : Nat} {s s' : ByteArray} (hb : BL x best long) (h : FmtI x i s) (hi : i < 8) (h1 : ¬ (long > 1 ∧ (i : Int) = best)) (hs' : s' = s ++ ⟨(if i = 0 ∨ (long > 1 ∧ (i : Int) = best + long) then [] else [58]).toArray⟩ ++ ⟨(numT 16 (atN x i)).toArray⟩) : FmtI x (i + 1) s' := by
  obtain ⟨-, hs, hw⟩ := h
  rw [numT_hex (atN_lt x i), hs, bcat, bcat] at hs'
  rcases bl_gap hb with ⟨hm, hl⟩ | ⟨hm, hf, hl⟩
  · refine ⟨by omega, ?_, .inl hm⟩
    rw [hs', pre_next (.inl hm)]
    by_cases h0 : i = 0
    · rw [if_pos (.inl h0), if_pos h0]
    · rw [if_neg (by omega), if_neg h0]
  · have hne : i ≠ gapF x := fun e => h1 ⟨by omega, by omega⟩
    rcases hw with hw | hw | hw
    · omega
    · refine ⟨by omega, ?_, .inr (.inl (by omega))⟩
      rw [hs', pre_next (.inr (by omega))]
      by_cases h0 : i = 0
      · rw [if_pos (.inl h0), if_pos h0]
      · rw [if_neg (by omega), if_neg h0]
    · refine ⟨by omega, ?_, .inr (.inr (by omega))⟩
      rw [hs', pre_after hm hw]
      by_cases h0 : i = gapF x + gapM x
      · rw [if_pos (.inr (by omega)), if_pos h0]
      · rw [if_neg (by omega), if_neg h0]
theorem fmtI_end {x : Ip} {i : Nat} {s : ByteArray} (h : FmtI x i s) (hi : ¬ (i : Int) < 8) (h1 : rightIp x = true) (h2 : x.six = true) : s = fmtS x := by
  obtain ⟨hl, hs, -⟩ := h
  obtain rfl : i = 8 := by omega
  rw [hs, fmtS_six h1 h2]; rfl
def nums8 (x : Ip) (k : Nat) : List Int := (List.range' 0 k).map fun j => (atN x j : Int)
theorem nums8_next {x : Ip} {k : Nat} : nums8 x k ++ [(atN x k : Int)] = nums8 x (k + 1) := by
  unfold nums8
  rw [List.range'_concat]; simp
theorem nums8_len (x : Ip) (k : Nat) : (nums8 x k).length = k := by unfold nums8; simp
theorem nums8_at {x : Ip} {j : Nat} (h : j < 8) : nth (nums8 x 8) j = (atN x j : Int) := by
  rw [nth_eq (by rw [nums8_len]; omega)]; simp [nums8]
theorem zrun_le (p : Nat → Bool) : ∀ k i, zrun p k i ≤ k
  | 0, _ => Nat.le_refl _
  | k + 1, i => by unfold zrun; have := zrun_le p k (i + 1); split <;> omega
def ZI (x : Ip) (i n : Nat) : Prop := i + n ≤ 8 ∧ zrun (zP x) (8 - i) i = n + zrun (zP x) (8 - (i + n)) (i + n)
theorem zi_0 {x : Ip} {i : Nat} (h : i < 8) : ZI x i 0 := ⟨by omega, by simp⟩
theorem zi_next {x : Ip} {i n : Nat} (h : ZI x i n) (h1 : i + n < 8) (h2 : (atN x (i + n) : Int) = 0) : ZI x i (n + 1) := by
  refine ⟨by omega, ?_⟩
  have hz : zP x (i + n) = true := by rw [zP_eq x _ h1, decide_eq_true_iff, ← atN_eq]; exact h2
  rw [h.2, show 8 - (i + n) = (8 - (i + (n + 1))) + 1 by omega, zrun, hz]
  simp only [if_true, show i + n + 1 = i + (n + 1) by omega]
  omega
theorem zi_end {x : Ip} {i n : Nat} (h : ZI x i n) (h1 : i + n < 8 → ¬ (atN x (i + n) : Int) = 0) : zrun (zP x) (8 - i) i = n := by
  rw [h.2]
  by_cases h8 : i + n < 8
  · have hz : zP x (i + n) = false := by rw [zP_eq x _ h8, decide_eq_false_iff_not, ← atN_eq]; exact h1 h8
    rw [show 8 - (i + n) = (8 - (i + n + 1)) + 1 by omega, zrun, hz]; simp
  · have := h.1
    rw [show 8 - (i + n) = 0 by omega]; rfl
def BI (x : Ip) (i : Nat) (best long : Int) : Prop := best = ((blP (zP x) i).1 : Int) ∧ long = ((blP (zP x) i).2 : Int)
theorem bi_next {x : Ip} {i n : Nat} {best long b' l' : Int} (h : BI x i best long) (hz : zrun (zP x) (8 - i) i = n) (hn : ((n : Int) > long ∧ b' = (i : Int) ∧ l' = (n : Int)) ∨ (¬ (n : Int) > long ∧ b' = best ∧ l' = long)) : BI x (i + 1) b' l' := by
  obtain ⟨h1, h2⟩ := h
  unfold BI blP
  rw [hz]
  rcases hn with ⟨a, b, c⟩ | ⟨a, b, c⟩
  · rw [if_pos (by omega)]; exact ⟨b, c⟩
  · rw [if_neg (by omega)]; exact ⟨b.trans h1, c.trans h2⟩

def fourT (x : Ip) (i : Nat) : List UInt8 := Lib.join ((x.bytes.take i).map fun b => decT b.toNat) [46]
theorem fourT_next {x : Ip} {i : Nat} (h : i < 4) : fourT x (i + 1) = fourT x i ++ (if i = 0 then [] else [46]) ++ decT (x.at i).toNat := by
  have hi : x.bytes[i]? = some (x.at i) := by
    unfold Ip.at
    rw [List.getD_eq_getElem?_getD, List.getElem?_eq_getElem (by rw [Ip.bytes_len]; omega)]; rfl
  unfold fourT
  rw [List.take_add_one, hi, List.map_append]
  show Lib.join (_ ++ [decT (x.at i).toNat]) [46] = _
  by_cases h0 : i = 0
  · subst h0; simp [Lib.join_one, Lib.join_nil]
  · rw [join_snoc _ _ (by rw [ne_eq, List.map_eq_nil_iff, List.take_eq_nil_iff]; rintro (e | e); exact h0 e; exact absurd (congrArg List.length e) (by rw [Ip.bytes_len]; simp)), if_neg h0]; simp
theorem fourT_len (x : Ip) : ∀ i, i ≤ 4 → (fourT x i).length ≤ 4 * i
  | 0, _ => by simp [fourT, Lib.join_nil]
  | i + 1, h => by
    have h1 := fourT_len x i (by omega)
    have h2 := decT_len (x.at i).toNat
    have h3 : (if i = 0 then ([] : List UInt8) else [46]).length ≤ 1 := by split <;> simp
    rw [fourT_next (by omega), List.length_append, List.length_append]
    omega
theorem four_step {x : Ip} {i : Nat} {s s' : ByteArray} (h : s = ⟨(fourT x i).toArray⟩) (hi : i < 4) (hs : (0 < i ∧ s' = s ++ ⟨#[46]⟩ ++ ⟨(numT 10 (x.at i).toNat).toArray⟩) ∨ (i = 0 ∧ s' = s ++ ⟨(numT 10 (x.at i).toNat).toArray⟩)) : s' = ⟨(fourT x (i + 1)).toArray⟩ := by
  rw [fourT_next hi]
  rw [numT_dec (UInt8.toNat_lt _)] at hs
  rcases hs with ⟨h0, rfl⟩ | ⟨h0, rfl⟩
  · rw [if_neg (by omega), h, ← bcat, ← bcat]
  · rw [if_pos h0, h, List.append_nil, ← bcat]
theorem fmtI_colon {x : Ip} {best long : Int} {i : Nat} {s s' : ByteArray} (hb : BL x best long) (h : FmtI x i s) (hi : (i : Int) < 8) (h1 : ¬ (long > 1 ∧ (i : Int) = best)) (h2 : (i : Int) > 0) (h3 : ¬ (long > 1 ∧ (i : Int) = best + long)) (hs' : s' = s ++ ⟨#[58]⟩ ++ ⟨(numT 16 (atN x i)).toArray⟩) : FmtI x (i + 1) s' :=
  fmtI_next hb h (by omega) h1 (by rw [if_neg (by omega)]; exact hs')
theorem fmtI_plain {x : Ip} {best long : Int} {i : Nat} {s s' : ByteArray} (hb : BL x best long) (h : FmtI x i s) (hi : (i : Int) < 8) (h1 : ¬ (long > 1 ∧ (i : Int) = best)) (h3 : ¬ (i : Int) > 0 ∨ (long > 1 ∧ (i : Int) = best + long)) (hs' : s' = s ++ ⟨(numT 16 (atN x i)).toArray⟩) : FmtI x (i + 1) s' :=
  fmtI_next hb h (by omega) h1 (by rw [if_pos (by omega), hs']; congr 1; apply ByteArray.ext; simp)
theorem fmtI_len {x : Ip} {i : Nat} {s : ByteArray} (h : FmtI x i s) : s.size ≤ 45 := by
  obtain ⟨h1, h2, h3⟩ := h
  have hg := (gap x).1
  rw [h2]
  show (preF (atN x) (gapF x) (gapM x) i).length ≤ 45
  unfold preF
  have l1 := txtJ_len (atN x) 0 i
  have l2 := txtJ_len (atN x) 0 (gapF x)
  have l3 := txtJ_len (atN x) (gapF x + gapM x) (i - (gapF x + gapM x))
  split
  · omega
  · simp only [List.length_append, List.length_cons]; omega
theorem g_at {x : Ip} {acc : List Int} {k idx m : Nat} (h : acc = nums8 x k) (hk : k = 8) (he : idx = m) (hm : m < 8) : (some (Value.int .i64 (nth acc idx)) : Option Value) = some (Value.int .i64 (atN x m : Int)) := by
  subst h hk he
  rw [nums8_at hm]

theorem join_mem {c b : UInt8} : ∀ {L : List (List UInt8)}, b ∈ Lib.join L [c] → b = c ∨ ∃ l ∈ L, b ∈ l
  | [], h => by simp [Lib.join_nil] at h
  | [x], h => by rw [Lib.join_one] at h; exact .inr ⟨x, by simp, h⟩
  | x :: y :: r, h => by
    rw [join_two, List.mem_append, List.mem_cons] at h
    rcases h with h | h | h
    · exact .inr ⟨x, by simp, h⟩
    · exact .inl h
    · rcases join_mem (L := y :: r) h with h | ⟨l, hl, h⟩
      · exact .inl h
      · exact .inr ⟨l, List.mem_cons_of_mem _ hl, h⟩
theorem asc_txtJ {g : Nat → Nat} (hg : ∀ j, g j < 65536) {i n : Nat} {b : UInt8} (h : b ∈ txtJ g i n) : b.toNat < 128 := by
  rcases join_mem h with rfl | ⟨l, hl, hb⟩
  · decide
  · obtain ⟨j, _, rfl⟩ := List.mem_map.1 hl
    obtain ⟨d, hd, rfl⟩ := hexT_mem (hg j) hb
    exact (dig_at hd).2.2.2.2
theorem asc_fmt (x : Ip) : asc (fmtS x) := by
  intro b hb
  have hb : b ∈ fmtL x := hb
  unfold fmtL at hb
  split at hb
  · split at hb
    · unfold fmtSix preF at hb
      split at hb
      · exact asc_txtJ (atN_lt x) hb
      · simp only [List.mem_append, List.mem_cons] at hb
        rcases hb with hb | rfl | rfl | hb
        · exact asc_txtJ (atN_lt x) hb
        · decide
        · decide
        · exact asc_txtJ (atN_lt x) hb
    · unfold fmtFour at hb
      rcases join_mem hb with rfl | ⟨l, hl, hb⟩
      · decide
      · obtain ⟨c, _, rfl⟩ := List.mem_map.1 hl
        obtain ⟨d, hd, rfl⟩ := decT_mem (UInt8.toNat_lt c) hb
        exact (dig_at (show d < 16 by omega)).2.2.2.2
  · simp at hb
/-! the chapter's example -/
def aliveA : Ip := ⟨true, 32, 1, 13, 184, 0, 0, 0, 0, 0, 0, 0, 0, 0, 0, 0, 1⟩
def aliveT : ByteArray := ⟨#[50, 48, 48, 49, 58, 100, 98, 56, 58, 58, 49]⟩
theorem aliveA_fmt : fmtS aliveA = aliveT := by decide +kernel
theorem aliveA_parse : parseIp aliveT = some aliveA := by rw [← aliveA_fmt]; exact parse_fmt _ (by decide)
theorem cmpIp_refIp (a b : Ip) : (if a.six = b.six then cmpBy a.bytes b.bytes else if a.six then 1 else -1) = refIp a b := cmpIp_ref a b

/-! ### What the walk of strconv.FormatInt meets -/
def D36 : ByteArray := ⟨#[48, 49, 50, 51, 52, 53, 54, 55, 56, 57, 97, 98, 99, 100, 101, 102, 103, 104, 105, 106, 107, 108, 109, 110, 111, 112, 113, 114, 115, 116, 117, 118, 119, 120, 121, 122]⟩
theorem dig36_all : ∀ d : Fin 16, btB D36 (d.val : Int) = hexDig d := by decide
theorem dig36 {d : Nat} (h : d < 16) : btB D36 (d : Int) = hexDig d := dig36_all ⟨d, h⟩
theorem and_mask {x k : Nat} (hx : x < 18446744073709551616) (hk : k ≤ 64) : IntKind.u64.wrap (((BitVec.ofInt 64 (x : Int) &&& BitVec.ofInt 64 (((2 ^ k - 1 : Nat)) : Int)).toNat : Nat) : Int) = ((x % 2 ^ k : Nat) : Int) := by
  have hx' : (BitVec.ofInt 64 (x : Int)).toNat = x := by simp; omega
  have hp : 2 ^ k ≤ 2 ^ 64 := Nat.pow_le_pow_right (by omega) hk
  have hk' : (BitVec.ofInt 64 (((2 ^ k - 1 : Nat)) : Int)).toNat = 2 ^ k - 1 := by
    rw [BitVec.toNat_ofInt]
    have : 0 < 2 ^ k := Nat.pow_pos (by omega)
    omega
  rw [BitVec.toNat_and, hx', hk', Nat.and_two_pow_sub_one_eq_mod]
  have h2 : x % 2 ^ k ≤ x := Nat.mod_le _ _
  simp only [IntKind.wrap, IntKind.bits, IntKind.signed, Bool.false_and, Bool.false_eq_true, if_false]
  omega
theorem fdiv16 (x : Nat) : ((x : Int)).fdiv 16 = ((x / 16 : Nat) : Int) := by rw [Int.fdiv_eq_ediv_of_nonneg _ (by omega)]; omega
theorem hexT_1 {n : Nat} (h : ¬ ((n : Int) ≥ 16)) : [btB D36 (n : Int)] = hexT n := by unfold hexT; rw [if_pos (by omega), dig36 (by omega)]
theorem hexT_2 {n : Nat} (h0 : (n : Int) ≥ 16) (h : ¬ (((n / 16 : Nat) : Int) ≥ 16)) : [btB D36 ((n / 16 : Nat) : Int), btB D36 ((n % 16 : Nat) : Int)] = hexT n := by
  unfold hexT; rw [if_neg (by omega), if_pos (by omega), dig36 (by omega), dig36 (by omega)]
theorem hexT_3 {n : Nat} (h0 : (((n / 16 : Nat) : Int) ≥ 16)) (h : ¬ (((n / 16 / 16 : Nat) : Int) ≥ 16)) : [btB D36 ((n / 16 / 16 : Nat) : Int), btB D36 ((n / 16 % 16 : Nat) : Int), btB D36 ((n % 16 : Nat) : Int)] = hexT n := by
  unfold hexT; rw [if_neg (by omega), if_neg (by omega), if_pos (by omega), dig36 (by omega), dig36 (by omega), dig36 (by omega), show n / 16 / 16 = n / 256 by omega]
theorem hexT_4 {n : Nat} (h0 : (((n / 16 / 16 : Nat) : Int) ≥ 16)) (h : ¬ (((n / 16 / 16 / 16 : Nat) : Int) ≥ 16)) : [btB D36 ((n / 16 / 16 / 16 : Nat) : Int), btB D36 ((n / 16 / 16 % 16 : Nat) : Int), btB D36 ((n / 16 % 16 : Nat) : Int), btB D36 ((n % 16 : Nat) : Int)] = hexT n := by
  unfold hexT; rw [if_neg (by omega), if_neg (by omega), if_neg (by omega), dig36 (by omega), dig36 (by omega), dig36 (by omega), dig36 (by omega), show n / 16 / 16 / 16 = n / 4096 by omega, show n / 16 / 16 = n / 256 by omega]
end Go.Proofs.YthellfigmpjhlaaGreatDoor
