/- Parsing of addresses, as plain functions. -/
import Derived.Test.YthellfigmpjhlaaGreatDoorIp
import Derived.Lib.Itoa
import Derived.Lib.ItoaNum
import Derived.Lib.ParseIntB
import Derived.Lib.ParseIntBCases
import Derived.Lib.SplitLaws
import Derived.Lib.IndexMore
import Derived.Lib.Case
namespace Go.Proofs.YthellfigmpjhlaaGreatDoor
open Go Go.RowKit
set_option linter.unusedVariables false
set_option linter.unusedSimpArgs false

def ub (e : Int) : UInt8 := UInt8.ofNat (e % 256).toNat
theorem ub_wrap (e : Int) : IntKind.u8.wrap e = ((ub e).toNat : Int) := by
  simp [IntKind.wrap, IntKind.bits, IntKind.signed, ub]
  omega
theorem or_i64 {x y : Int} (h0 : 0 ≤ x) (h1 : x % 16 = 0) (h2 : x ≤ 72057594037927936) (h3 : 0 ≤ y) (h4 : y < 16) : IntKind.i64.wrap (((BitVec.ofInt 64 x ||| BitVec.ofInt 64 y).toNat : Nat) : Int) = x + y := by
  obtain ⟨a, rfl⟩ := Int.eq_ofNat_of_zero_le h0
  obtain ⟨b, rfl⟩ := Int.eq_ofNat_of_zero_le h3
  have ha : (BitVec.ofInt 64 (a : Int)).toNat = a := by simp; omega
  have hb : (BitVec.ofInt 64 (b : Int)).toNat = b := by simp; omega
  rw [BitVec.toNat_or, ha, hb]
  obtain ⟨c, hc⟩ : ∃ c, a = c * 16 := ⟨a / 16, by omega⟩
  have := Nat.shiftLeft_add_eq_or_of_lt (b := b) (i := 4) (by omega) c
  rw [Nat.shiftLeft_eq] at this
  rw [show a ||| b = a + b by rw [hc]; exact this.symm]
  rw [i64In (by omega) (by omega)]
  omega

def splitOn (s : ByteArray) (c : UInt8) : List ByteArray := Lib.splitB ⟨#[c]⟩ 0 (Lib.countB s ⟨#[c]⟩) s
def decP (s : ByteArray) : Int :=
  match Lib.parseUintB 8 s.data.toList with
  | .ok u => if s.size > 3 ∨ ¬ (⟨(Lib.itoa (u : Int)).toArray⟩ : ByteArray) = s then -1 else (u : Int)
  | _ => -1
def dotAcc (l : List ByteArray) : Nat → Ip
  | 0 => noIp
  | i + 1 => (dotAcc l i).set i (ub (decP (nth l i)))
def dotP (s : ByteArray) : Option Ip :=
  if (splitOn s 46).length = 4 ∧ ∀ x ∈ splitOn s 46, 0 ≤ decP x then some (dotAcc (splitOn s 46) 4) else none
def hexS : ByteArray := ⟨#[48, 49, 50, 51, 52, 53, 54, 55, 56, 57, 97, 98, 99, 100, 101, 102]⟩
def grpGo : List UInt8 → Int → Int
  | [], n => n
  | c :: t, n => if Lib.indexByte hexS.data.toList c < 0 then -1 else grpGo t (n * 16 + Lib.indexByte hexS.data.toList c)
def lowS (s : ByteArray) : ByteArray := ⟨(Lib.toLowerA s.data.toList).toArray⟩
def grpP (s : ByteArray) : Int := if s.size = 0 ∨ s.size > 4 then -1 else grpGo (lowS s).data.toList 0
def grpB (x : ByteArray) : List UInt8 := [ub ((grpP x).fdiv 256), ub (grpP x)]
def rowOk (s : ByteArray) : Bool := decide (s.size = 0 ∨ ∀ x ∈ splitOn s 58, 0 ≤ grpP x)
def rowB (s : ByteArray) : List UInt8 := if s.size = 0 then [] else if rowOk s then (splitOn s 58).flatMap grpB else []
def Ip.cpy (a : Ip) (j : Nat) (A : List UInt8) : Ip := Ip.of a.six (over a.bytes j A)
def sixIp : Ip := ⟨true, 0, 0, 0, 0, 0, 0, 0, 0, 0, 0, 0, 0, 0, 0, 0, 0⟩
def cutH (s : ByteArray) : ByteArray := ⟨(Lib.cut s.data.toList [58, 58]).1.toArray⟩
def cutT (s : ByteArray) : ByteArray := ⟨(Lib.cut s.data.toList [58, 58]).2.1.toArray⟩
def cutY (s : ByteArray) : Bool := (Lib.cut s.data.toList [58, 58]).2.2
def colIp (s : ByteArray) : Ip := (sixIp.cpy 0 (rowB (cutH s))).cpy (16 - ((rowB (cutT s)).length : Int)).toNat (rowB (cutT s))
def colOk (s : ByteArray) : Bool :=
  rowOk (cutH s) && rowOk (cutT s) && decide (s.size ≠ 0) && (if cutY s then decide ((rowB (cutH s)).length + (rowB (cutT s)).length ≤ 14) else decide ((rowB (cutH s)).length + (rowB (cutT s)).length = 16))
def colP (s : ByteArray) : Option Ip := if colOk s then some (colIp s) else none
def hasC (s : ByteArray) : Bool := decide (0 ≤ Lib.indexByte s.data.toList 58)
def parseIp (s : ByteArray) : Option Ip := if hasC s then colP s else dotP s
def retIp (ea : Nat → Addr) (r : Option Ip) : Value := match r with | some a => .tuple #[ipV a, .nilIface] | none => .tuple #[ipV noIp, errV ea 3]

def asc (s : ByteArray) : Prop := ∀ b ∈ s.data.toList, b.toNat < 128

theorem splitB_size (sep : ByteArray) (save : Nat) : ∀ (k : Nat) (s x : ByteArray), x ∈ Lib.splitB sep save k s → x.size ≤ s.size
  | 0, s, x, h => by simp [Lib.splitB] at h; subst h; exact Nat.le_refl _
  | k + 1, s, x, h => by
    unfold Lib.splitB at h
    split at h
    · simp at h; subst h; exact Nat.le_refl _
    · rcases List.mem_cons.1 h with rfl | h
      · rw [ByteArray.size_extract]; omega
      · have := splitB_size sep save k _ x h
        rw [ByteArray.size_extract] at this
        omega

/-! ### Bounds -/
theorem decP_bd (s : ByteArray) : -1 ≤ decP s ∧ decP s ≤ 255 := by
  unfold decP
  split
  · rename_i u hu
    have := Lib.parseUintB_le hu
    split <;> omega
  · omega

theorem idx_hex (c : UInt8) : -1 ≤ Lib.indexByte hexS.data.toList c ∧ Lib.indexByte hexS.data.toList c < 16 := by
  have h : ∀ l : List UInt8, Lib.indexByte l c < l.length ∨ l = [] := by
    intro l
    induction l with
    | nil => exact .inr rfl
    | cons b t ih =>
      left
      unfold Lib.indexByte
      rcases ih with ih | ih
      · simp only [List.length_cons]
        split
        · omega
        · split <;> omega
      · subst ih
        simp only [List.length_cons, List.length_nil, Lib.indexByte]
        split
        · omega
        · simp
  refine ⟨Lib.indexByte_ge _ _, ?_⟩
  rcases h hexS.data.toList with h | h
  · exact h
  · cases h

theorem grpGo_bd : ∀ (l : List UInt8) (n : Int) (k : Nat), 0 ≤ n → n < 16 ^ k → -1 ≤ grpGo l n ∧ grpGo l n < 16 ^ (k + l.length)
  | [], n, k, h0, h1 => ⟨by unfold grpGo; omega, by unfold grpGo; simpa using h1⟩
  | c :: t, n, k, h0, h1 => by
    unfold grpGo
    have hb := idx_hex c
    have hp : ∀ m : Nat, (0 : Int) < 16 ^ m := fun m => Int.pow_pos (by decide)
    split
    · have := hp (k + (c :: t).length)
      omega
    · have hs : (16 : Int) ^ (k + 1) = 16 ^ k * 16 := Int.pow_succ ..
      have := grpGo_bd t (n * 16 + Lib.indexByte hexS.data.toList c) (k + 1) (by omega) (by omega)
      rw [show k + (c :: t).length = k + 1 + t.length by simp; omega]
      exact this

theorem low_len (s : ByteArray) : (lowS s).size = s.size := by
  show (lowS s).data.toList.length = s.data.toList.length
  simp [lowS, Lib.toLowerA]

theorem grpP_bd (s : ByteArray) : -1 ≤ grpP s ∧ grpP s ≤ 65535 := by
  unfold grpP
  split
  · omega
  · next h =>
    have hb := grpGo_bd (lowS s).data.toList 0 0 (Int.le_refl _) (by decide)
    have hl : (lowS s).data.toList.length = s.size := low_len s
    rw [hl] at hb
    have : ∀ m : Nat, m ≤ 4 → (16 : Int) ^ (0 + m) ≤ 65536 := by decide
    have := this s.size (by omega)
    omega

theorem p16 (i : Nat) (h : i < 4) : (16 : Int) ^ i ≤ 4096 ∧ (16 : Int) ^ (i + 1) = 16 ^ i * 16 := by
  refine ⟨?_, Int.pow_succ ..⟩
  match i, h with
  | 0, _ | 1, _ | 2, _ | 3, _ => decide
  | n + 4, h => omega

theorem grpRound {l : List UInt8} {i : Nat} {n z : Int} (h : grpGo l 0 = grpGo (l.drop i) n) (hi : i < l.length) (hx : ¬ Lib.indexByte hexS.data.toList (nth l i) < 0) (hz : z = n * 16 + Lib.indexByte hexS.data.toList (nth l i)) : grpGo l 0 = grpGo (l.drop (i + 1)) z := by
  rw [h, List.drop_eq_getElem_cons hi, grpGo, ← nth_eq hi, if_neg hx, hz]
theorem grpBad {l : List UInt8} {i : Nat} {n : Int} (h : grpGo l 0 = grpGo (l.drop i) n) (hi : i < l.length) (hx : Lib.indexByte hexS.data.toList (nth l i) < 0) : grpGo l 0 = -1 := by
  rw [h, List.drop_eq_getElem_cons hi, grpGo, ← nth_eq hi, if_pos hx]
theorem grpEnd {l : List UInt8} {i : Nat} {n : Int} (h : grpGo l 0 = grpGo (l.drop i) n) (hi : l.length ≤ i) : grpGo l 0 = n := by
  rw [h, List.drop_eq_nil_of_le hi, grpGo]
theorem grpP_no {s : ByteArray} (h : s = ⟨#[]⟩ ∨ (s.size : Int) > 4) : -1 = grpP s := by
  unfold grpP
  rw [if_pos]
  rcases h with rfl | h
  · exact .inl rfl
  · exact .inr (by omega)
theorem size_ne {s : ByteArray} (h : ¬ s = ⟨#[]⟩) : s.size ≠ 0 := fun e => h ((empty_iff s).2 e)
theorem grpP_yes {s : ByteArray} (h1 : ¬ s = ⟨#[]⟩) (h2 : ¬ (s.size : Int) > 4) : grpP s = grpGo (lowS s).data.toList 0 := by
  unfold grpP
  rw [if_neg]
  rintro (h | h)
  · exact size_ne h1 h
  · omega

theorem rowOk_e {s : ByteArray} (h : s = ⟨#[]⟩) : rowOk s = true ∧ rowB s = [] := by
  have : s.size = 0 := (empty_iff s).1 h
  exact ⟨by unfold rowOk; exact decide_eq_true (.inl this), by unfold rowB; rw [if_pos this]⟩
theorem nth_mem' {α : Type} [Inhabited α] {l : List α} {i : Nat} (h : i < l.length) : nth l i ∈ l := by rw [nth_eq h]; exact List.getElem_mem _
theorem row_bad {s : ByteArray} {i : Nat} (h0 : ¬ s = ⟨#[]⟩) (hi : i < (splitOn s 58).length) (hx : grpP (nth (splitOn s 58) i) < 0) : rowOk s = false ∧ rowB s = [] := by
  have : rowOk s = false := by
    unfold rowOk
    refine decide_eq_false ?_
    rintro (h | h)
    · exact size_ne h0 h
    · have := h _ (nth_mem' hi); omega
  exact ⟨this, by unfold rowB; rw [if_neg (size_ne h0), this]; rfl⟩
theorem row_good {s : ByteArray} {i : Nat} {acc : List UInt8} (h0 : ¬ s = ⟨#[]⟩) (hi : ¬ (i : Int) < ((splitOn s 58).length : Int)) (hI : i ≤ (splitOn s 58).length ∧ (∀ j, j < i → 0 ≤ grpP (nth (splitOn s 58) j)) ∧ acc = ((splitOn s 58).take i).flatMap grpB) : rowOk s = true ∧ rowB s = acc := by
  have hok : rowOk s = true := by
    unfold rowOk
    refine decide_eq_true (.inr fun x hx => ?_)
    obtain ⟨j, hj, rfl⟩ := List.mem_iff_getElem.1 hx
    have := hI.2.1 j (by omega)
    rwa [nth_eq hj] at this
  refine ⟨hok, ?_⟩
  unfold rowB
  rw [if_neg (size_ne h0), if_pos hok, hI.2.2, List.take_of_length_le (by omega)]
theorem rowRound {s : ByteArray} {i : Nat} {acc : List UInt8} (hI : i ≤ (splitOn s 58).length ∧ (∀ j, j < i → 0 ≤ grpP (nth (splitOn s 58) j)) ∧ acc = ((splitOn s 58).take i).flatMap grpB) (hi : (i : Int) < ((splitOn s 58).length : Int)) (hx : ¬ grpP (nth (splitOn s 58) i) < 0) :
    i + 1 ≤ (splitOn s 58).length ∧ (∀ j, j < i + 1 → 0 ≤ grpP (nth (splitOn s 58) j)) ∧ acc ++ ([ub ((grpP (nth (splitOn s 58) i)).fdiv 256), ub (grpP (nth (splitOn s 58) i))] : List UInt8) = ((splitOn s 58).take (i + 1)).flatMap grpB := by
  refine ⟨by omega, fun j hj => ?_, ?_⟩
  · by_cases e : j = i
    · subst e; omega
    · exact hI.2.1 j (by omega)
  · rw [List.take_succ_eq_append_getElem (by omega), List.flatMap_append, ← hI.2.2, ← nth_eq (by omega)]
    simp [grpB]
theorem acc_len {s : ByteArray} {i : Nat} {acc : List UInt8} (h : acc = ((splitOn s 58).take i).flatMap grpB) : acc.length ≤ 2 * i := by
  rw [h]
  have : ∀ l : List ByteArray, (l.flatMap grpB).length = 2 * l.length := fun l => by induction l with | nil => rfl | cons a t ih => simp [grpB, ih]; omega
  rw [this, List.length_take]
  omega
theorem split_len (s : ByteArray) (c : UInt8) : (splitOn s c).length ≤ s.size + 1 := by
  have hle := Lib.countB_le ⟨#[c]⟩ (by show 1 ≤ 1; omega) s.size s (Nat.le_refl _)
  have : (splitOn s c).length = Lib.countB s ⟨#[c]⟩ + 1 := Lib.splitB_all _ (by show 1 ≤ 1; omega) 0 _ s rfl
  omega

/-! ### What is cut out of a text -/
theorem splitB_mem (sep : ByteArray) (save : Nat) : ∀ (k : Nat) (s x : ByteArray), x ∈ Lib.splitB sep save k s → ∀ b ∈ x.data.toList, b ∈ s.data.toList
  | 0, s, x, h => by simp [Lib.splitB] at h; subst h; exact fun _ h => h
  | k + 1, s, x, h => by
    have hex : ∀ (i j : Nat) (b : UInt8), b ∈ (s.extract i j).data.toList → b ∈ s.data.toList := fun i j b hb => by
      rw [ByteArray.data_extract, Array.toList_extract] at hb
      exact List.mem_of_mem_drop (List.mem_of_mem_take hb)
    unfold Lib.splitB at h
    split at h
    · simp at h; subst h; exact fun _ h => h
    · rcases List.mem_cons.1 h with rfl | h
      · exact hex _ _
      · exact fun b hb => hex _ _ b (splitB_mem sep save k _ x h b hb)
theorem asc_split {s x : ByteArray} {c : UInt8} (h : asc s) (hx : x ∈ splitOn s c) : asc x := fun b hb => h b (splitB_mem _ _ _ _ _ hx b hb)
theorem asc_cutH {s : ByteArray} (h : asc s) : asc (cutH s) := fun b hb => h b (by
  unfold cutH Lib.cut at hb
  split at hb
  · exact List.mem_of_mem_take hb
  · exact hb)
theorem asc_cutT {s : ByteArray} (h : asc s) : asc (cutT s) := fun b hb => h b (by
  unfold cutT Lib.cut at hb
  split at hb
  · exact List.mem_of_mem_drop hb
  · simp at hb)
theorem cutH_size (s : ByteArray) : (cutH s).size ≤ s.size := by
  show (Lib.cut s.data.toList [58, 58]).1.length ≤ s.data.toList.length
  unfold Lib.cut
  split
  · simp only [List.length_take]; omega
  · exact Nat.le_refl _
theorem cutT_size (s : ByteArray) : (cutT s).size ≤ s.size := by
  show (Lib.cut s.data.toList [58, 58]).2.1.length ≤ s.data.toList.length
  unfold Lib.cut
  split
  · simp only [List.length_drop]; omega
  · simp

theorem rowB_len (s : ByteArray) : (rowB s).length ≤ 2 * (s.size + 1) := by
  have h := split_len s 58
  have h2 : ∀ l : List ByteArray, (l.flatMap grpB).length = 2 * l.length := fun l => by induction l with | nil => rfl | cons a t ih => simp [grpB, ih]; omega
  unfold rowB
  split
  · simp
  · split
    · rw [h2]; omega
    · simp

theorem colOk_iff {s : ByteArray} : colOk s = true ↔ rowOk (cutH s) = true ∧ rowOk (cutT s) = true ∧ ¬ s = ⟨#[]⟩ ∧ ((cutY s = true ∧ ¬ 16 - ((rowB (cutH s)).length : Int) - ((rowB (cutT s)).length : Int) < 2) ∨ (cutY s = false ∧ 16 - ((rowB (cutH s)).length : Int) - ((rowB (cutT s)).length : Int) = 0)) := by
  unfold colOk
  simp only [Bool.and_eq_true, decide_eq_true_iff, empty_iff, ne_eq, and_assoc]
  cases cutY s <;> simp <;> intros <;> omega
theorem colP_none {s : ByteArray} (h : ¬ colOk s = true) : colP s = none := by unfold colP; rw [if_neg h]
theorem colP_some {s : ByteArray} (h : colOk s = true) : colP s = some (colIp s) := by unfold colP; rw [if_pos h]

theorem or_256 {x y : Int} (h0 : 0 ≤ x) (h1 : x % 256 = 0) (h2 : x ≤ 1000000) (h3 : 0 ≤ y) (h4 : y < 256) : IntKind.i64.wrap (((BitVec.ofInt 64 x ||| BitVec.ofInt 64 y).toNat : Nat) : Int) = x + y := by
  obtain ⟨a, rfl⟩ := Int.eq_ofNat_of_zero_le h0
  obtain ⟨b, rfl⟩ := Int.eq_ofNat_of_zero_le h3
  have ha : (BitVec.ofInt 64 (a : Int)).toNat = a := by simp; omega
  have hb : (BitVec.ofInt 64 (b : Int)).toNat = b := by simp; omega
  rw [BitVec.toNat_or, ha, hb]
  obtain ⟨c, hc⟩ : ∃ c, a = c * 256 := ⟨a / 256, by omega⟩
  have := Nat.shiftLeft_add_eq_or_of_lt (b := b) (i := 8) (by omega) c
  rw [Nat.shiftLeft_eq] at this
  rw [show a ||| b = a + b by rw [hc]; exact this.symm]
  rw [i64In (by omega) (by omega)]
  omega
def atIp (x : Ip) (i : Nat) : Int := ((x.at (2 * (i : Int)).toNat).toNat : Int) * 256 + ((x.at (2 * (i : Int) + 1).toNat).toNat : Int)
theorem atIp_bd (x : Ip) (i : Nat) : 0 ≤ atIp x i ∧ atIp x i ≤ 65535 := by
  unfold atIp
  have h1 := UInt8.toNat_lt (x.at (2 * (i : Int)).toNat)
  have h2 := UInt8.toNat_lt (x.at (2 * (i : Int) + 1).toNat)
  omega
end Go.Proofs.YthellfigmpjhlaaGreatDoor
