/- bytes.Trim of noughts: is something left? -/
import Derived.Test.YthellfigmpjhlaaGreatDoorAddrW
namespace Go.Proofs.YthellfigmpjhlaaGreatDoor
open Go Go.RowKit
set_option linter.unusedVariables false
set_option linter.unusedSimpArgs false

theorem dropWhile_len0 (p : UInt8 → Bool) : ∀ l : List UInt8, (l.dropWhile p).length = 0 ↔ ∀ b ∈ l, p b = true
  | [] => by simp
  | a :: t => by
    by_cases h : p a = true
    · rw [List.dropWhile_cons_of_pos h, dropWhile_len0 p t]; simp [h]
    · rw [List.dropWhile_cons_of_neg h]; simp [h]
theorem dropWhile_idem' (p : UInt8 → Bool) : ∀ l : List UInt8, (l.dropWhile p).dropWhile p = l.dropWhile p
  | [] => rfl
  | a :: t => by
    by_cases h : p a = true
    · rw [List.dropWhile_cons_of_pos h]; exact dropWhile_idem' p t
    · rw [List.dropWhile_cons_of_neg h, List.dropWhile_cons_of_neg h]
theorem trim0_len (l : List UInt8) : (Lib.trimS l [0]).length = 0 ↔ ∀ b ∈ l, b = 0 := by
  unfold Lib.trimS Lib.trimLeftS Lib.trimRightS
  rw [dropWhile_len0]
  constructor
  · intro h
    have h2 : ((l.reverse.dropWhile ([0].contains ·))).length = 0 := by
      have h3 := (dropWhile_len0 ([0].contains ·) (l.reverse.dropWhile ([0].contains ·))).2 (fun b hb => h b (by simpa using hb))
      rwa [dropWhile_idem'] at h3
    intro b hb
    have := (dropWhile_len0 ([0].contains ·) l.reverse).1 h2 b (by simpa using hb)
    simpa using this
  · intro h b hb
    have := List.dropWhile_sublist (p := ([0].contains ·)) (l := l.reverse) |>.subset (by simpa using hb)
    simp [h b (by simpa using this)]

theorem trimS_le (l : List UInt8) : (Lib.trimS l [0]).length ≤ (Lib.trimRightS l [0]).length := (List.dropWhile_sublist _).length_le
theorem trim0_ret (p : Option Addr) (c : Nat) (l : List UInt8) (W : World) (hl : SlAt W p (l.flatMap u8L)) (h0 : 0 < l.length) (hc : l.length ≤ c) (hb : c ≤ 9223372036854775807) :
    Ret Tryz.prog 84 #[.slice p l.length c, .string ⟨#[0]⟩] W fun v W' => ∃ q n d, v = .slice q n d ∧ (n = 0 ↔ ∀ b ∈ l, b = 0) ∧ Own W noX [] W' := by
  have hfl : l.flatMap u8L = l.map fun b => Value.int .u8 (b.toNat : Int) := by
    clear hl h0 hc
    induction l with
    | nil => rfl
    | cons a t ih => simp [u8L, ih]
  have hat : Lib.BytesAt W p l.length l := fun _ => ⟨ab p, ao p, hl.ne (k := 1) (i := 0) (fun _ => rfl) (by decide) h0, fun i hi => by
    rw [hl.cell i (.int .u8 ((l.getD i 0).toNat : Int)) (by rw [hfl]; simp [List.getD_eq_getElem?_getD, hi])]⟩
  refine Ret.of (Any.bytes_Trim_one Tryz.laysV6 p l.length c l 0 W rfl hc hb hat h0 (by decide)) ?_
  rintro e W' ⟨he, k, hw⟩
  have hle := trimS_le l
  refine ⟨_, he, ?_⟩
  unfold Lib.leftV
  split
  · exact ⟨none, 0, 0, rfl, ⟨fun _ => (trim0_len l).1 (by omega), fun _ => rfl⟩, by rw [hw]; exact own_drewN W _ k⟩
  · next hne =>
    exact ⟨_, _, _, rfl, by
      rw [← trim0_len l]
      omega, by rw [hw]; exact own_drewN W _ k⟩
end Go.Proofs.YthellfigmpjhlaaGreatDoor
