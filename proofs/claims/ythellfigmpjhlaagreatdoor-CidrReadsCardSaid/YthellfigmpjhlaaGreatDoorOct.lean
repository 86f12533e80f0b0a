/- Bytes that are read: the state of a cursor, as plain functions. -/
import Derived.Test.YthellfigmpjhlaaGreatDoorA02
import Derived.Test.YthellfigmpjhlaaGreatDoorCidr
namespace Go.Proofs.YthellfigmpjhlaaGreatDoor
open Go Go.RowKit
set_option linter.unusedVariables false
set_option linter.unusedSimpArgs false

/-- An error that may be there: its number in package api. -/
def eV (ea : Nat → Addr) : Option Nat → Value
  | none => .nilIface
  | some i => errV ea i
def nE : Option Nat → Int
  | none => 0
  | some i => (i : Int) + 1
def numB : List UInt8 → Nat := List.foldl (fun n b => n * 256 + b.toNat) 0
theorem numB_take {l : List UInt8} {i : Nat} (h : i < l.length) : numB (l.take (i + 1)) = numB (l.take i) * 256 + (nth l i).toNat := by
  unfold numB
  rw [List.take_add_one, List.getElem?_eq_getElem h, Option.toList_some, List.foldl_append, nth_eq h]; rfl
theorem numB_le : ∀ {l : List UInt8}, l.length ≤ 2 → numB l ≤ 65535
  | [], _ => by simp [numB]
  | [a], _ => by have := a.toNat_lt; simp [numB]; omega
  | [a, b], _ => by have := a.toNat_lt; have := b.toNat_lt; simp [numB]; omega
  | a :: b :: c :: t, h => by simp at h
theorem numB_1 {l : List UInt8} (h : l.length ≤ 1) : numB l ≤ 255 := by
  match l, h with
  | [], _ => simp [numB]
  | [a], _ => have := a.toNat_lt; simp [numB]; omega
theorem or_u64 {x y : Nat} (h1 : x ≤ 1000) (h3 : y < 256) : IntKind.u64.wrap (((BitVec.ofInt 64 ((x : Int) * 256) ||| BitVec.ofInt 64 (y : Int)).toNat : Nat) : Int) = ((x * 256 + y : Nat) : Int) := by
  have ha : (BitVec.ofInt 64 ((x : Int) * 256)).toNat = x * 256 := by simp; omega
  have hb : (BitVec.ofInt 64 (y : Int)).toNat = y := by simp; omega
  rw [BitVec.toNat_or, ha, hb]
  have := Nat.shiftLeft_add_eq_or_of_lt (b := y) (i := 8) (by omega) x
  rw [Nat.shiftLeft_eq] at this
  rw [show x * 256 ||| y = x * 256 + y from this.symm]
  rw [u64In (by omega) (by omega)]
def seg (l : List UInt8) (a n : Nat) : List UInt8 := (l.take (a + n)).drop a
theorem seg_len {l : List UInt8} {a n : Nat} (h : a + n ≤ l.length) : (seg l a n).length = n := by unfold seg; simp; omega
theorem seg_len' {l : List UInt8} {a n : Nat} (h : a + n ≤ l.length) : ((l.take (a + n)).drop a).length = n := seg_len h
def fromIp (l : List UInt8) : Ip := if l.length = 16 then sixIp.cpy 0 l else noIp.cpy 0 l
/-- What is read of an address at place k: the address, the place, the error. -/
def readIp (l : List UInt8) (k : Nat) : Ip × Nat × Option Nat :=
  if k + 1 ≤ l.length then
    (if numB (seg l k 1) = 4 then (if k + 1 + 4 ≤ l.length then (noIp.cpy 0 (seg l (k + 1) 4), k + 1 + 4, none) else (noIp, k + 1, some 1))
     else if numB (seg l k 1) = 6 then (if k + 1 + 16 ≤ l.length then (sixIp.cpy 0 (seg l (k + 1) 16), k + 1 + 16, none) else (noIp, k + 1, some 1))
     else (noIp, k + 1, some 6))
  else (noIp, k, some 1)
theorem readIp_short {l : List UInt8} {k : Nat} (h : ¬ k + 1 ≤ l.length) : readIp l k = (noIp, k, some 1) := by unfold readIp; rw [if_neg h]
theorem readIp_kind {l : List UInt8} {k : Nat} (h : k + 1 ≤ l.length) (h4 : ¬ (numB (seg l k 1) : Int) = 4) (h6 : ¬ (numB (seg l k 1) : Int) = 6) : readIp l k = (noIp, k + 1, some 6) := by unfold readIp; rw [if_pos h, if_neg (by omega), if_neg (by omega)]
theorem readIp_4s {l : List UInt8} {k : Nat} (h : k + 1 ≤ l.length) (h4 : (numB (seg l k 1) : Int) = 4) (h5 : ¬ k + 1 + 4 ≤ l.length) : readIp l k = (noIp, k + 1, some 1) := by unfold readIp; rw [if_pos h, if_pos (by omega), if_neg h5]
theorem readIp_4 {l : List UInt8} {k : Nat} (h : k + 1 ≤ l.length) (h4 : (numB (seg l k 1) : Int) = 4) (h5 : k + 1 + 4 ≤ l.length) : readIp l k = (noIp.cpy 0 (seg l (k + 1) 4), k + 1 + 4, none) := by unfold readIp; rw [if_pos h, if_pos (by omega), if_pos h5]
theorem readIp_6s {l : List UInt8} {k : Nat} (h : k + 1 ≤ l.length) (h4 : (numB (seg l k 1) : Int) = 6) (h5 : ¬ k + 1 + 16 ≤ l.length) : readIp l k = (noIp, k + 1, some 1) := by unfold readIp; rw [if_pos h, if_neg (by omega), if_pos (by omega), if_neg h5]
theorem readIp_6 {l : List UInt8} {k : Nat} (h : k + 1 ≤ l.length) (h4 : (numB (seg l k 1) : Int) = 6) (h5 : k + 1 + 16 ≤ l.length) : readIp l k = (sixIp.cpy 0 (seg l (k + 1) 16), k + 1 + 16, none) := by unfold readIp; rw [if_pos h, if_neg (by omega), if_pos (by omega), if_pos h5]
theorem readIp_at (l : List UInt8) (k : Nat) : (readIp l k).2.1 ≤ k + 17 := by
  unfold readIp
  repeat' split
  all_goals simp only; omega
theorem readIp_in {l : List UInt8} {k : Nat} (h : k ≤ l.length) : (readIp l k).2.1 ≤ l.length := by
  unfold readIp
  repeat' split
  all_goals simp only; omega
theorem readIp_e (l : List UInt8) (k : Nat) : (readIp l k).2.2 = none ∨ (readIp l k).2.2 = some 1 ∨ (readIp l k).2.2 = some 6 := by
  unfold readIp
  repeat' split
  all_goals simp

theorem nE_ne (e : Option Nat) : (!(nE e == 0)) = e.isSome := by cases e with | none => rfl | some i => simp [nE]; omega
theorem nE_eq (e : Option Nat) : (nE e == 0) = !e.isSome := by rw [← nE_ne, Bool.not_not]
def sizeIp (x : Ip) : Nat := if x.six then 16 else 4
def octs (x : Ip) : List UInt8 := (x.bytes.drop 0).take (sizeIp x)
def putIp (x : Ip) : List UInt8 := (if x.six then 6 else 4) :: octs x
theorem size_le (x : Ip) : sizeIp x ≤ 16 ∧ 4 ≤ sizeIp x := by unfold sizeIp; split <;> omega
theorem octs_len (x : Ip) : (octs x).length = sizeIp x := by have := size_le x; unfold octs; simp [Ip.bytes_len]; omega
theorem Own.arrRead {b : Nat} {x : Ip} {T : TypeId} {w0 W : World} {X : Ext} (hO : Own w0 X [.blk b (.cells (ipL x).toArray T (0, 0))] W) (hn : sizeIp x ≤ 16) : Own w0 X [readL u8L (some ⟨b, 1, none⟩) (octs x)] W := by
  have hs : SlAt W (some ⟨b, 1 + 0, none⟩) (((x.bytes.drop 0).take (sizeIp x)).flatMap u8L) := SlAt.arr hO List.mem_cons_self 0 (sizeIp x) (by omega)
  have hfp : ∀ k, (readL u8L (some ⟨b, 1, none⟩) (octs x)).fp k → k = b := fun k hk => (Option.some.inj (show some b = some k from hk)).symm
  refine ⟨hO.os, hO.tape, hO.output, hO.size, hO.old, hO.drawn, fun c hc => ?_, fun c hc k hk => ?_, fun c hc k hk => ?_, List.pairwise_singleton _ _⟩
  · rw [List.mem_singleton] at hc; subst hc
    refine ⟨fun _ => rfl, fun j u hu => ⟨(ipL x).toArray, T, (0, 0), hO.blk List.mem_cons_self, ?_⟩⟩
    have h2 : W.cell? ⟨b, 1 + 0 + j, none⟩ = some u := hs.cell j u hu
    rw [hO.cell (T := T) (fr := (0, 0)) (cs := (ipL x).toArray) List.mem_cons_self] at h2
    exact h2
  · rw [List.mem_singleton] at hc; subst hc
    rw [hfp k hk]; exact hO.alive _ List.mem_cons_self b rfl
  · rw [List.mem_singleton] at hc; subst hc
    rw [hfp k hk]; exact hO.fresh _ List.mem_cons_self b rfl
theorem octs_4 {l : List UInt8} (h : l.length = 4) : octs (noIp.cpy 0 l) = l ∧ rightIp (noIp.cpy 0 l) = true := by
  match l, h with
  | [a, b, c, d], _ => exact ⟨rfl, show (false || decide (∀ b ∈ ([0, 0, 0, 0, 0, 0, 0, 0, 0, 0, 0, 0] : List UInt8), b = 0)) = true by decide⟩
theorem octs_16 {l : List UInt8} (h : l.length = 16) : octs (sixIp.cpy 0 l) = l ∧ rightIp (sixIp.cpy 0 l) = true := by
  match l, h with
  | [_, _, _, _, _, _, _, _, _, _, _, _, _, _, _, _], _ => exact ⟨rfl, rfl⟩

/-! ### Points and cidrs -/
def putPt (c : Pt) : List UInt8 := putIp c.ip ++ [ub (c.port.fdiv 256), ub c.port]
def putCd (c : Pt) : List UInt8 := putIp c.ip ++ [ub c.port]
theorem u64_nonneg (x : Int) : 0 ≤ IntKind.u64.wrap x ∧ IntKind.u64.wrap x ≤ 18446744073709551615 ∧ IntKind.u64.wrap x = x % 18446744073709551616 := by
  simp only [IntKind.wrap, IntKind.bits, IntKind.signed, Bool.false_and, Bool.false_eq_true, if_false]; omega
theorem ub_hi (x : Int) : ub (IntKind.u64.wrap x % 65536 / 256) = ub (x.fdiv 256) := by
  unfold ub
  rw [(u64_nonneg x).2.2, Int.fdiv_eq_ediv_of_nonneg _ (by omega)]
  congr 2; omega
theorem ub_lo (x : Int) : ub (IntKind.u64.wrap x % 65536 % 256) = ub x := by
  unfold ub
  rw [(u64_nonneg x).2.2]
  congr 2; omega
theorem putIp_len (x : Ip) : (putIp x).length = 1 + sizeIp x := by unfold putIp; rw [List.length_cons, octs_len]; omega
def readPt (l : List UInt8) (k : Nat) : Pt × Nat × Option Nat :=
  if (readIp l k).2.2.isSome then (noPt, (readIp l k).2.1, (readIp l k).2.2)
  else if (readIp l k).2.1 + 2 ≤ l.length then (if numB (seg l (readIp l k).2.1 2) = 0 then (noPt, (readIp l k).2.1 + 2, some 0) else (⟨(readIp l k).1, (numB (seg l (readIp l k).2.1 2) : Int)⟩, (readIp l k).2.1 + 2, none))
  else (noPt, (readIp l k).2.1, some 1)
theorem readPt_e {l : List UInt8} {k : Nat} (h : (readIp l k).2.2.isSome = true) : readPt l k = (noPt, (readIp l k).2.1, (readIp l k).2.2) := by unfold readPt; rw [if_pos h]
theorem readPt_s {l : List UInt8} {k : Nat} (h : (readIp l k).2.2.isSome = false) (h2 : ¬ (readIp l k).2.1 + 2 ≤ l.length) : readPt l k = (noPt, (readIp l k).2.1, some 1) := by unfold readPt; rw [if_neg (by rw [h]; simp), if_neg h2]
theorem readPt_0 {l : List UInt8} {k : Nat} (h : (readIp l k).2.2.isSome = false) (h2 : (readIp l k).2.1 + 2 ≤ l.length) (h3 : ¬ (1 ≤ (numB (seg l (readIp l k).2.1 2) : Int) ∧ (numB (seg l (readIp l k).2.1 2) : Int) ≤ 65535)) : readPt l k = (noPt, (readIp l k).2.1 + 2, some 0) := by
  have := numB_le (l := seg l (readIp l k).2.1 2) (by rw [seg_len h2]; omega)
  unfold readPt; rw [if_neg (by rw [h]; simp), if_pos h2, if_pos (by omega)]
theorem readPt_ok {l : List UInt8} {k : Nat} (h : (readIp l k).2.2.isSome = false) (h2 : (readIp l k).2.1 + 2 ≤ l.length) (h3 : 1 ≤ (numB (seg l (readIp l k).2.1 2) : Int) ∧ (numB (seg l (readIp l k).2.1 2) : Int) ≤ 65535) : readPt l k = (⟨(readIp l k).1, (numB (seg l (readIp l k).2.1 2) : Int)⟩, (readIp l k).2.1 + 2, none) := by
  unfold readPt; rw [if_neg (by rw [h]; simp), if_pos h2, if_neg (by omega)]
def readCd (l : List UInt8) (k : Nat) : Pt × Nat × Option Nat :=
  if (readIp l k).2.2.isSome then (noPt, (readIp l k).2.1, (readIp l k).2.2)
  else if (readIp l k).2.1 + 1 ≤ l.length then (if rightCd ⟨(readIp l k).1, (numB (seg l (readIp l k).2.1 1) : Int)⟩ then (⟨(readIp l k).1, (numB (seg l (readIp l k).2.1 1) : Int)⟩, (readIp l k).2.1 + 1, none) else (noPt, (readIp l k).2.1 + 1, some 0))
  else (noPt, (readIp l k).2.1, some 1)
theorem readCd_e {l : List UInt8} {k : Nat} (h : (readIp l k).2.2.isSome = true) : readCd l k = (noPt, (readIp l k).2.1, (readIp l k).2.2) := by unfold readCd; rw [if_pos h]
theorem readCd_s {l : List UInt8} {k : Nat} (h : (readIp l k).2.2.isSome = false) (h2 : ¬ (readIp l k).2.1 + 1 ≤ l.length) : readCd l k = (noPt, (readIp l k).2.1, some 1) := by unfold readCd; rw [if_neg (by rw [h]; simp), if_neg h2]
theorem readCd_0 {l : List UInt8} {k : Nat} (h : (readIp l k).2.2.isSome = false) (h2 : (readIp l k).2.1 + 1 ≤ l.length) (h3 : rightCd ⟨(readIp l k).1, (numB (seg l (readIp l k).2.1 1) : Int)⟩ = false) : readCd l k = (noPt, (readIp l k).2.1 + 1, some 0) := by
  unfold readCd; rw [if_neg (by rw [h]; simp), if_pos h2, if_neg (by rw [h3]; simp)]
theorem readCd_ok {l : List UInt8} {k : Nat} (h : (readIp l k).2.2.isSome = false) (h2 : (readIp l k).2.1 + 1 ≤ l.length) (h3 : rightCd ⟨(readIp l k).1, (numB (seg l (readIp l k).2.1 1) : Int)⟩ = true) : readCd l k = (⟨(readIp l k).1, (numB (seg l (readIp l k).2.1 1) : Int)⟩, (readIp l k).2.1 + 1, none) := by
  unfold readCd; rw [if_neg (by rw [h]; simp), if_pos h2, if_pos h3]
theorem readPt_b (l : List UInt8) (k : Nat) : ∀ i, (readPt l k).2.2 = some i → i < 18 := by
  intro i hi
  have he := readIp_e l k
  unfold readPt at hi
  split at hi
  · rcases he with e | e | e <;> rw [show (readIp l k).2.2 = _ from e] at hi <;> simp at hi <;> omega
  · split at hi
    · split at hi <;> simp at hi <;> omega
    · simp at hi; omega
theorem readCd_b (l : List UInt8) (k : Nat) : ∀ i, (readCd l k).2.2 = some i → i < 18 := by
  intro i hi
  have he := readIp_e l k
  unfold readCd at hi
  split at hi
  · rcases he with e | e | e <;> rw [show (readIp l k).2.2 = _ from e] at hi <;> simp at hi <;> omega
  · split at hi
    · split at hi <;> simp at hi <;> omega
    · simp at hi; omega
theorem readPt_in {l : List UInt8} {k : Nat} (h : k ≤ l.length) : (readPt l k).2.1 ≤ l.length := by
  have := readIp_in h
  unfold readPt
  repeat' split
  all_goals simp only; omega
theorem readCd_in {l : List UInt8} {k : Nat} (h : k ≤ l.length) : (readCd l k).2.1 ≤ l.length := by
  have := readIp_in h
  unfold readCd
  repeat' split
  all_goals simp only; omega
/-! read back -/
theorem six_cpy (x : Ip) (h : x.six = true) : sixIp.cpy 0 x.bytes = x := by
  refine Ip.ext_bytes (by rw [h]; rfl) ?_
  rw [cpy_bytes (by rw [Ip.bytes_len]; omega)]
  unfold over
  rw [List.take_zero, List.nil_append, List.drop_of_length_le (by rw [Ip.bytes_len, Ip.bytes_len]; omega), List.append_nil]
theorem four_cpy (x : Ip) (h : x.six = false) (hr : rightIp x = true) : noIp.cpy 0 (x.bytes.take 4) = x := by
  refine Ip.ext_bytes (by rw [h]; rfl) ?_
  rw [cpy_bytes (by rw [List.length_take, Ip.bytes_len]; omega)]
  unfold over
  have hz : x.bytes.drop 4 = List.replicate 12 0 := by
    rw [List.eq_replicate_iff]
    refine ⟨by rw [List.length_drop, Ip.bytes_len], fun b hb => ?_⟩
    unfold rightIp at hr
    rw [h, Bool.false_or, decide_eq_true_iff] at hr
    exact hr b (by rw [List.take_of_length_le (by rw [List.length_drop, Ip.bytes_len]; omega)]; exact hb)
  have hn : noIp.bytes.drop (0 + (x.bytes.take 4).length) = List.replicate 12 0 := by rw [List.length_take, Ip.bytes_len]; rfl
  rw [hn, ← hz, List.take_zero, List.nil_append, List.take_append_drop]
theorem readIp_back (x : Ip) (r : List UInt8) (hr : rightIp x = true) : readIp (putIp x ++ r) 0 = (x, 1 + sizeIp x, none) := by
  have hl : (putIp x ++ r).length = 1 + sizeIp x + r.length := by rw [List.length_append, putIp_len]
  cases h6 : x.six
  · have hs : sizeIp x = 4 := by unfold sizeIp; rw [h6]; rfl
    have ho : octs x = x.bytes.take 4 := by unfold octs; rw [hs]; rfl
    have hp : putIp x = 4 :: x.bytes.take 4 := by unfold putIp; rw [h6, ho]; rfl
    have h1 : seg (putIp x ++ r) 0 1 = [4] := by rw [hp]; rfl
    rw [readIp_4 (by omega) (by rw [h1]; rfl) (by omega), hs]
    have h2 : seg (putIp x ++ r) (0 + 1) 4 = x.bytes.take 4 := by
      rw [hp]; unfold seg
      show ((x.bytes.take 4 ++ r).take 4) = _
      rw [List.take_left' (by rw [List.length_take, Ip.bytes_len]; rfl)]
    rw [h2, four_cpy x h6 hr]
  · have hs : sizeIp x = 16 := by unfold sizeIp; rw [h6]; rfl
    have ho : octs x = x.bytes := by unfold octs; rw [hs]; exact List.take_of_length_le (by rw [List.drop_zero, Ip.bytes_len]; omega)
    have hp : putIp x = 6 :: x.bytes := by unfold putIp; rw [h6, ho]; rfl
    have h1 : seg (putIp x ++ r) 0 1 = [6] := by rw [hp]; rfl
    rw [readIp_6 (by omega) (by rw [h1]; rfl) (by omega), hs]
    have h2 : seg (putIp x ++ r) (0 + 1) 16 = x.bytes := by
      rw [hp]; unfold seg
      show ((x.bytes ++ r).take 16) = _
      rw [List.take_left' (by rw [Ip.bytes_len])]
    rw [h2, six_cpy x h6]
theorem seg_tail {a r : List UInt8} {n m : Nat} (h : a.length = n) (hr : r.length = m) : seg (a ++ r) n m = r := by
  unfold seg
  rw [List.take_of_length_le (by rw [List.length_append, h, hr]; omega), List.drop_left' h]
theorem readPt_back (c : Pt) (h1 : rightIp c.ip = true) (h2 : 1 ≤ c.port ∧ c.port ≤ 65535) : readPt (putPt c) 0 = (c, (putPt c).length, none) := by
  have hi := readIp_back c.ip [ub (c.port.fdiv 256), ub c.port] h1
  have hl : (putPt c).length = 1 + sizeIp c.ip + 2 := by unfold putPt; rw [List.length_append, putIp_len]; rfl
  have hs : seg (putPt c) (1 + sizeIp c.ip) 2 = [ub (c.port.fdiv 256), ub c.port] := seg_tail (putIp_len c.ip) rfl
  have hn : (numB [ub (c.port.fdiv 256), ub c.port] : Int) = c.port := by
    have e1 := ub_wrap (c.port.fdiv 256)
    have e2 := ub_wrap c.port
    have e3 : c.port.fdiv 256 = c.port / 256 := Int.fdiv_eq_ediv_of_nonneg _ (by omega)
    have e4 : ((ub (c.port.fdiv 256)).toNat : Int) = c.port / 256 := by unfold ub; rw [e3]; simp; omega
    have e5 : ((ub c.port).toNat : Int) = c.port % 256 := by unfold ub; simp; omega
    show (((0 * 256 + (ub (c.port.fdiv 256)).toNat) * 256 + (ub c.port).toNat : Nat) : Int) = _
    omega
  have hi' : readIp (putPt c) 0 = (c.ip, 1 + sizeIp c.ip, none) := hi
  rw [readPt_ok (by rw [hi']; rfl) (by rw [hi', hl]; exact Nat.le_refl _) (by rw [hi']; show 1 ≤ (numB (seg (putPt c) (1 + sizeIp c.ip) 2) : Int) ∧ _; rw [hs, hn]; exact h2), hi']
  show ((⟨c.ip, (numB (seg (putPt c) (1 + sizeIp c.ip) 2) : Int)⟩ : Pt), _, _) = _
  rw [hs, hn, hl]
theorem readCd_back (c : Pt) (h : rightCd c = true) : readCd (putCd c) 0 = (c, (putCd c).length, none) := by
  obtain ⟨b1, b2, b3, b4, b5⟩ := rightCd_bd h
  have hi := readIp_back c.ip [ub c.port] b3
  have hl : (putCd c).length = 1 + sizeIp c.ip + 1 := by unfold putCd; rw [List.length_append, putIp_len]; rfl
  have hs : seg (putCd c) (1 + sizeIp c.ip) 1 = [ub c.port] := seg_tail (putIp_len c.ip) rfl
  have hn : (numB [ub c.port] : Int) = c.port := by
    have e5 : ((ub c.port).toNat : Int) = c.port := by unfold ub; simp; omega
    show ((0 * 256 + (ub c.port).toNat : Nat) : Int) = _
    omega
  have hi' : readIp (putCd c) 0 = (c.ip, 1 + sizeIp c.ip, none) := hi
  rw [readCd_ok (by rw [hi']; rfl) (by rw [hi', hl]; exact Nat.le_refl _) (by rw [hi']; show rightCd ⟨c.ip, (numB (seg (putCd c) (1 + sizeIp c.ip) 1) : Int)⟩ = true; rw [hs, hn]; exact h), hi']
  show ((⟨c.ip, (numB (seg (putCd c) (1 + sizeIp c.ip) 1) : Int)⟩ : Pt), _, _) = _
  rw [hs, hn, hl]
theorem putPt_len (c : Pt) : (putPt c).length ≤ 19 := by have := size_le c.ip; unfold putPt; rw [List.length_append, putIp_len]; simp; omega
theorem putCd_len (c : Pt) : (putCd c).length ≤ 18 := by have := size_le c.ip; unfold putCd; rw [List.length_append, putIp_len]; simp; omega
end Go.Proofs.YthellfigmpjhlaaGreatDoor
