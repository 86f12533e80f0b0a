/- Points' texts parsed, as plain functions. -/
import Derived.Test.YthellfigmpjhlaaGreatDoorAddrP
import Derived.Lib.AtoiAll
import Derived.Lib.LastIndexByte
import Derived.Lib.Strings
namespace Go.Proofs.YthellfigmpjhlaaGreatDoor
open Go Go.RowKit
set_option linter.unusedVariables false
set_option linter.unusedSimpArgs false

def lastC (s : ByteArray) : Int := Lib.lastIndexByte s 58
theorem lastC_bd (s : ByteArray) : -1 ≤ lastC s ∧ lastC s < s.size := by
  unfold lastC Lib.lastIndexByte
  rcases Lib.lastIdx_spec s 58 s.size with ⟨h, _⟩ | ⟨i, hi, h, _⟩
  · omega
  · omega
def atoiN (s : ByteArray) : Int := match Lib.atoiAll s.data.toList with | .ok v => v | .syntax => 0 | .range => Lib.atoiSat s.data.toList
def atoiOk (s : ByteArray) : Bool := match Lib.atoiAll s.data.toList with | .ok _ => true | _ => false
def numP (s : ByteArray) : Int := if atoiOk s = true ∧ 1 ≤ atoiN s ∧ atoiN s ≤ 65535 ∧ (⟨(Lib.itoa (atoiN s)).toArray⟩ : ByteArray) = s then atoiN s else 0
def bareA (s : ByteArray) : ByteArray := ⟨(Lib.trimPrefix s.data.toList [91]).toArray⟩
def bareS (s : ByteArray) : ByteArray := if hasC s then ⟨(Lib.trimSuffix (bareA s).data.toList [93]).toArray⟩ else s
def bareOk (s : ByteArray) : Bool := if hasC s then Lib.hasPrefix s.data.toList [91] && Lib.hasSuffix (bareA s).data.toList [93] else true
def ptNum (s : ByteArray) : ByteArray := s.extract (lastC s + 1).toNat s.size
def ptHead (s : ByteArray) : ByteArray := s.extract 0 (lastC s).toNat
def retPt (ea : Nat → Addr) (r : Option Pt) : Value := match r with | some p => .tuple #[ptV p, .nilIface] | none => .tuple #[ptV noPt, errV ea 3]
def parsePt (s : ByteArray) : Option Pt :=
  if lastC s < 0 then none
  else match parseIp (bareS (ptHead s)) with
    | some a => if numP (ptNum s) ≠ 0 ∧ bareOk (ptHead s) = true then some ⟨a, numP (ptNum s)⟩ else none
    | none => none

theorem numP_no {s : ByteArray} (h : atoiOk s = false ∨ ¬ (1 ≤ atoiN s ∧ atoiN s ≤ 65535) ∨ ¬ (⟨(Lib.itoa (atoiN s)).toArray⟩ : ByteArray) = s) : 0 = numP s := by
  unfold numP
  rw [if_neg]
  rintro ⟨h1, h2, h3, h4⟩
  rcases h with h | h | h
  · rw [h] at h1; cases h1
  · exact h ⟨h2, h3⟩
  · exact h h4
theorem numP_yes {s : ByteArray} (h1 : atoiOk s = true) (h2 : 1 ≤ atoiN s ∧ atoiN s ≤ 65535) (h3 : (⟨(Lib.itoa (atoiN s)).toArray⟩ : ByteArray) = s) : atoiN s = numP s := by
  unfold numP
  rw [if_pos ⟨h1, h2.1, h2.2, h3⟩]

theorem asc_ext {s : ByteArray} (i j : Nat) (h : asc s) : asc (s.extract i j) := fun b hb => h b (by
  rw [ByteArray.data_extract, Array.toList_extract] at hb
  exact List.mem_of_mem_drop (List.mem_of_mem_take hb))
theorem asc_bare {s : ByteArray} (h : asc s) : asc (bareS s) := by
  unfold bareS
  split
  · intro b hb
    refine h b ?_
    have h1 : b ∈ (bareA s).data.toList := by
      simp only [Lib.trimSuffix] at hb
      split at hb
      · exact List.mem_of_mem_take hb
      · exact hb
    simp only [bareA, Lib.trimPrefix] at h1
    split at h1
    · exact List.mem_of_mem_drop h1
    · exact h1
  · exact h
theorem bareA_size (s : ByteArray) : (bareA s).size ≤ s.size := by
  show (Lib.trimPrefix s.data.toList [91]).length ≤ s.data.toList.length
  unfold Lib.trimPrefix
  split
  · simp only [List.length_drop]; omega
  · exact Nat.le_refl _
theorem bareS_size (s : ByteArray) : (bareS s).size ≤ s.size := by
  unfold bareS
  split
  · refine Nat.le_trans ?_ (bareA_size s)
    show (Lib.trimSuffix (bareA s).data.toList [93]).length ≤ (bareA s).data.toList.length
    unfold Lib.trimSuffix
    split
    · simp only [List.length_take]; omega
    · exact Nat.le_refl _
  · exact Nat.le_refl _

theorem parsePt_neg {s : ByteArray} (h : lastC s < 0) : parsePt s = none := by unfold parsePt; rw [if_pos h]
theorem parsePt_not {s : ByteArray} (h : ¬ lastC s < 0) (hp : parseIp (bareS (ptHead s)) = none) : parsePt s = none := by unfold parsePt; rw [if_neg h, hp]
theorem parsePt_bad {s : ByteArray} {x0 : Ip} (h : ¬ lastC s < 0) (hp : parseIp (bareS (ptHead s)) = some x0) (hb : numP (ptNum s) = 0 ∨ bareOk (ptHead s) = false) : parsePt s = none := by
  unfold parsePt
  rw [if_neg h, hp]
  refine if_neg ?_
  rintro ⟨h1, h2⟩
  rcases hb with hb | hb
  · exact h1 hb
  · rw [hb] at h2; cases h2
theorem parsePt_good {s : ByteArray} {x0 : Ip} (h : ¬ lastC s < 0) (hp : parseIp (bareS (ptHead s)) = some x0) (h1 : ¬ numP (ptNum s) = 0) (h2 : bareOk (ptHead s) = true) : parsePt s = some ⟨x0, numP (ptNum s)⟩ := by
  unfold parsePt
  rw [if_neg h, hp]
  exact if_pos ⟨h1, h2⟩
end Go.Proofs.YthellfigmpjhlaaGreatDoor
