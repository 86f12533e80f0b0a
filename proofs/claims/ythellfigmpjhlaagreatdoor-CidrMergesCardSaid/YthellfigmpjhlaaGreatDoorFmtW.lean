import Derived.Test.YthellfigmpjhlaaGreatDoorAddrX
namespace Go.Proofs.YthellfigmpjhlaaGreatDoor
open Go Go.RowKit
set_option linter.unusedVariables false
set_option linter.unusedSimpArgs false
abbrev zDFmtW : ByteArray := (⟨#[48, 49, 50, 51, 52, 53, 54, 55, 56, 57, 97, 98, 99, 100, 101, 102, 103, 104, 105, 106, 107, 108, 109, 110, 111, 112, 113, 114, 115, 116, 117, 118, 119, 120, 121, 122]⟩ : ByteArray)
theorem bx156 : Builder.Extra Tryz.prog Tryz.lays156_ren := { sizeBuilder := by kernel_rfl, liesBuilder := by kernel_rfl, t5 := by kernel_rfl, a5 := fun w => by kernel_rfl, z5 := fun w => by kernel_rfl, v5 := fun w => by kernel_rfl, infoByte := by kernel_rfl, cellsByte := by kernel_rfl, sizeByte := by kernel_rfl, neB5 := by decide }
theorem join_ret (p : Option Addr) (c : Nat) (l : List ByteArray) (b : UInt8) (W : World) (h : SlAt W p (l.flatMap strL)) (hc : l.length ≤ c) (hl : (Lib.join (l.map (·.data.toList)) [b]).length ≤ 1000000) (hn : l.length ≤ 1000000 := by omega) :
    Ret Tryz.prog 81 #[.slice p l.length c, .string ⟨#[b]⟩] W fun v W' => v = .string ⟨(Lib.join (l.map (·.data.toList)) [b]).toArray⟩ ∧ Own W noX [] W' := by
  cases l with
  | nil => exact Ret.of (Any.strings_Join_none Tryz.lays156 bx156 p c ⟨#[b]⟩ W) fun _ _ ⟨he, hw⟩ => ⟨_, he, rfl, by rw [hw]; exact Own.start W _⟩
  | cons x t =>
    have hp := h.ne (k := 1) (i := 0) (fun _ => rfl) (by decide) (by simp)
    have hcell : ∀ (j : Nat) y, (x :: t)[j]? = some y → W.cell? ⟨ab p, ao p + j, none⟩ = some (.string y) := fun j y hy => by
      have hj : j < (x :: t).length := by
        rcases Nat.lt_or_ge j (x :: t).length with h' | h'
        · exact h'
        · rw [List.getElem?_eq_none h'] at hy; cases hy
      have := h.el (k := 1) (fun _ => rfl) hj 0 (.string y) (by rw [nth_eq hj, ← Option.some.inj ((List.getElem?_eq_getElem hj).symm.trans hy)]; rfl)
      simpa using this
    rw [hp]
    exact Ret.of (Any.strings_Join Tryz.lays156 bx156 (ab p) (ao p) c (x :: t) ⟨#[b]⟩ W hcell (lt_of_cell (hcell 0 x rfl)) (by omega) hc (by show (Lib.join _ [b]).length ≤ _; omega)) fun _ _ ⟨he, hb⟩ => ⟨_, he, rfl, own_below hb⟩

set_option maxRecDepth 20000 in
theorem tz64_16  (W : World) (hG : LibW W) : Ret Tryz.prog 227 #[.int .u64 16] W fun v W' => v = .int .i64 4 ∧ Own W noX [] W' := by
 refine enter Tryz.func227 rfl (n := 14) rfl (by kernel_rfl) (E0 := [(0, .int .u64 16)]) (by kernel_rfl) ?_
 intro a hF; have hO := Own.start W noX
 refine wp_seq_k fun K1 hK1 => ?_
 refine wp_region_lit ?_
 refine Vp hF (.int .i64 0) ?_; clear hF; intro a hF
 refine L_nil ?_
 refine hK1 _ _ ?_
 refine wp_seq_k fun K2 hK2 => ?_
 refine wp_seq_k fun K3 hK3 => ?_
 refine wp_region_lit ?_
 refine Vp hF (.int .u64 16) ?_; clear hF; intro a hF
 refine Vp hF (.bool false) ?_; clear hF; intro a hF
 refine L_nil ?_
 refine hK3 _ _ ?_
 refine cond_f hF (by kernel_rfl) (by kernel_rfl) ?_
 refine wp_skip ?_
 refine hK2 _ _ ?_
 refine wp_seq_k fun K4 hK4 => ?_
 refine wp_region_lit ?_
 refine Vp hF (.int .u64 16) ?_; clear hF; intro a hF
 refine Vp hF (.int .u64 16) ?_; clear hF; intro a hF
 refine Vp hF (.int .u64 18446744073709551600) ?_; clear hF; intro a hF
 refine Vp hF (.int .u64 16) ?_; clear hF; intro a hF
 refine Vp hF (.int .u64 4573923408821661840) ?_; clear hF; intro a hF
 refine Vp hF (.int .u64 15) ?_; clear hF; intro a hF
 refine Vp hF (.pointer (some ⟨25, 15, none⟩)) ?_; clear hF; intro a hF
 refine Vr hF (.int .u8 4) (x_load (p := .pointer (some ⟨25, 15, none⟩)) rfl (by kernel_rfl) (run_load1 (by kernel_rfl) (hG.own hO).deb)) ?_; clear hF; intro a hF
 refine Vp hF (.int .i64 4) ?_; clear hF; intro a hF
 refine Vp hF (.int .i64 4) ?_; clear hF; intro a hF
 refine L_nil ?_
 refine hK4 _ _ ?_
 refine wp_ret ?_
 refine ret1 hF (v := .int .i64 4) rfl (resT (by kernel_rfl)) (by refine ⟨?_, hO.nil⟩; first | rfl | (simp [*]; done)) .ret (.inl rfl)

set_option maxRecDepth 20000 in
theorem tz_16  (W : World) (hG : LibW W) : Ret Tryz.prog 214 #[.int .u64 16] W fun v W' => v = .int .i64 4 ∧ Own W noX [] W' := by
 refine enter Tryz.func214 rfl (n := 8) rfl (by kernel_rfl) (E0 := [(0, .int .u64 16)]) (by kernel_rfl) ?_
 intro a hF; have hO := Own.start W noX
 refine wp_seq_k fun K1 hK1 => ?_
 refine wp_region_lit ?_
 refine Vp hF (.int .i64 0) ?_; clear hF; intro a hF
 refine L_nil ?_
 refine hK1 _ _ ?_
 refine wp_seq_k fun K2 hK2 => ?_
 refine cond_f hF (by kernel_rfl) (by kernel_rfl) ?_
 refine wp_skip ?_
 refine hK2 _ _ ?_
 refine wp_seq_k fun K3 hK3 => ?_
 refine wp_region_lit ?_
 refine Vp hF (.int .u64 16) ?_; clear hF; intro a hF
 refine Lc hF (tz64_16 W (hG.own hO)) ?_
 clear hF; rintro _ W1 a ⟨rfl, hk⟩ hF
 replace hO := hO.call0 hk; clear hk
 refine Vp hF (.int .i64 4) ?_; clear hF; intro a hF
 refine L_nil ?_
 refine hK3 _ _ ?_
 refine wp_ret ?_
 refine ret1 hF (v := .int .i64 4) rfl (resT (by kernel_rfl)) (by refine ⟨?_, hO.nil⟩; first | rfl | (simp [*]; done)) .ret (.inl rfl)

set_option maxRecDepth 20000 in
theorem pow2_16  (W : World) : Ret Tryz.prog 213 #[.int .i64 16] W fun v W' => v = .bool true ∧ Own W noX [] W' := by
 refine enter Tryz.func213 rfl (n := 8) rfl (by kernel_rfl) (E0 := [(0, .int .i64 16)]) (by kernel_rfl) ?_
 intro a hF; have hO := Own.start W noX
 refine wp_seq_k fun K1 hK1 => ?_
 refine wp_region_lit ?_
 refine Vp hF (.bool false) ?_; clear hF; intro a hF
 refine L_nil ?_
 refine hK1 _ _ ?_
 refine wp_seq_k fun K2 hK2 => ?_
 refine wp_region_lit ?_
 refine Vp hF (.int .i64 16) ?_; clear hF; intro a hF
 refine Vp hF (.int .i64 16) ?_; clear hF; intro a hF
 refine Vp hF (.int .i64 15) ?_; clear hF; intro a hF
 refine Vp hF (.int .i64 0) ?_; clear hF; intro a hF
 refine Vp hF (.bool true) ?_; clear hF; intro a hF
 refine Vp hF (.bool true) ?_; clear hF; intro a hF
 refine L_nil ?_
 refine hK2 _ _ ?_
 refine wp_ret ?_
 refine ret1 hF (v := .bool true) rfl (resT (by kernel_rfl)) (by refine ⟨?_, hO.nil⟩; first | rfl | (simp [*]; done)) .ret (.inl rfl)

set_option maxRecDepth 20000 in
theorem formatBits_16 (n : Nat) (W : World) (hG : LibW W) (hn : n < 65536) : Ret Tryz.prog 188 #[.slice none 0 0, .int .u64 ((n : Int)), .int .i64 16, .bool false, .bool false] W fun v W' => v = .tuple #[.slice none 0 0, .string ⟨(hexT n).toArray⟩] ∧ Own W noX [] W' := by
 refine enter Tryz.func188 rfl (n := 102) rfl (by kernel_rfl) (E0 := [(4, .bool false), (3, .bool false), (2, .int .i64 16), (1, .int .u64 ((n : Int))), (0, .slice none 0 0)]) (by kernel_rfl) ?_
 intro a hF; have hO := Own.start W noX
 refine wp_seq_k fun K1 hK1 => ?_
 refine wp_region_lit ?_
 refine Vp hF (.slice none 0 0) ?_; clear hF; intro a hF
 refine Vp hF (.string (⟨#[]⟩ : ByteArray)) ?_; clear hF; intro a hF
 refine L_nil ?_
 refine hK1 _ _ ?_
 refine wp_seq_k fun K2 hK2 => ?_
 refine wp_seq_k fun K3 hK3 => ?_
 refine wp_region_lit ?_
 refine Vp hF (.int .i64 16) ?_; clear hF; intro a hF
 refine Vp hF (.bool false) ?_; clear hF; intro a hF
 refine Vp hF (.bool false) ?_; clear hF; intro a hF
 refine Vp hF (.int .i64 16) ?_; clear hF; intro a hF
 refine Vp hF (.bool false) ?_; clear hF; intro a hF
 refine Vp hF (.bool false) ?_; clear hF; intro a hF
 refine Vp hF (.bool false) ?_; clear hF; intro a hF
 refine Vp hF (.int .i64 16) ?_; clear hF; intro a hF
 refine Vp hF (.bool false) ?_; clear hF; intro a hF
 refine Vp hF (.bool false) ?_; clear hF; intro a hF
 refine L_nil ?_
 refine hK3 _ _ ?_
 refine cond_f hF (by kernel_rfl) (by kernel_rfl) ?_
 refine wp_skip ?_
 refine hK2 _ _ ?_
 refine wp_seq_k fun K4 hK4 => ?_
 refine wp_region_lit ?_
 refine L_new hF hO (by kernel_rfl) (by kernel_rfl) (vf := fun b => .pointer (some ⟨b, 0, none⟩)) (ob := .cells (Array.replicate 65 (.int .u8 0) ++ #[]) 216) (by kernel_rfl) (by kernel_rfl) ?_
 clear hF hO; intro b1 W1 a hO hF
 refine L_nil ?_
 refine hK4 _ _ ?_
 refine wp_seq_k fun K5 hK5 => ?_
 refine wp_region_lit ?_
 refine Vp hF (.int .i64 65) ?_; clear hF; intro a hF
 refine L_nil ?_
 refine hK5 _ _ ?_
 refine wp_seq_k fun K6 hK6 => ?_
 refine wp_seq_k fun K7 hK7 => ?_
 refine wp_region_lit ?_
 refine Vp hF (.bool false) ?_; clear hF; intro a hF
 refine L_nil ?_
 refine hK7 _ _ ?_
 refine cond_f hF (by kernel_rfl) (by kernel_rfl) ?_
 refine wp_skip ?_
 refine hK6 _ _ ?_
 refine wp_seq_k fun K8 hK8 => ?_
 refine wp_seq_k fun K9 hK9 => ?_
 refine wp_region_lit ?_
 refine Vp hF (.int .i64 16) ?_; clear hF; intro a hF
 refine Lc hF (pow2_16 W1) ?_
 clear hF; rintro _ W2 a ⟨rfl, hk⟩ hF
 replace hO := hO.call0 hk; clear hk
 refine L_nil ?_
 refine hK9 _ _ ?_
 refine cond_t hF (by kernel_rfl) (by kernel_rfl) ?_
 refine wp_seq_k fun K10 hK10 => ?_
 refine wp_region_lit ?_
 refine Vp hF (.int .i64 16) ?_; clear hF; intro a hF
 refine Vp hF (.int .u64 16) ?_; clear hF; intro a hF
 refine Lc hF (tz_16 W2 (hG.own hO)) ?_
 clear hF; rintro _ W3 a ⟨rfl, hk⟩ hF
 replace hO := hO.call0 hk; clear hk
 refine Vp hF (.int .u64 4) ?_; clear hF; intro a hF
 refine Vp hF (.int .u64 4) ?_; clear hF; intro a hF
 refine L_nil ?_
 refine hK10 _ _ ?_
 refine wp_seq_k fun K11 hK11 => ?_
 refine wp_region_lit ?_
 refine Vp hF (.int .i64 16) ?_; clear hF; intro a hF
 refine Vp hF (.int .u64 16) ?_; clear hF; intro a hF
 refine Vp hF (.int .u64 16) ?_; clear hF; intro a hF
 refine L_nil ?_
 refine hK11 _ _ ?_
 refine wp_seq_k fun K12 hK12 => ?_
 refine wp_region_lit ?_
 refine Vp hF (.int .i64 16) ?_; clear hF; intro a hF
 refine Vp hF (.int .u64 16) ?_; clear hF; intro a hF
 refine Vp hF (.int .u64 15) ?_; clear hF; intro a hF
 refine Vp hF (.int .u64 15) ?_; clear hF; intro a hF
 refine L_nil ?_
 refine hK12 _ _ ?_
 refine wp_seq_k fun K13 hK13 => ?_
 refine wp_block ?_
 refine loopStart 4 ?_
 refine loopR ?_
 refine wp_seq_k fun K14 hK14 => ?_
 refine wp_seq_k fun K15 hK15 => ?_
 refine wp_region_lit ?_
 refine Vp hF (.int .u64 ((n : Int))) ?_; clear hF; intro a hF
 refine Vp hF (.int .u64 16) ?_; clear hF; intro a hF
 refine Vp hF (.bool (decide ((n : Int) ≥ 16))) ?_; clear hF; intro a hF
 refine L_nil ?_
 refine hK15 _ _ ?_
 by_cases q1 : (n : Int) ≥ 16
 ·
  replace hF := hF.know (d := 46) (v' := .bool true) (by kernel_rfl) (congrArg Value.bool (decide_eq_true q1))
  refine cond_t hF (by kernel_rfl) (by kernel_rfl) ?_
  refine wp_skip ?_
  refine hK14 _ _ ?_
  refine wp_block ?_
  refine wp_seq_k fun K16 hK16 => ?_
  refine wp_region_lit ?_
  refine Vp hF (.int .i64 65) ?_; clear hF; intro a hF
  refine Vp hF (.int .i64 64) ?_; clear hF; intro a hF
  refine Vp hF (.int .i64 64) ?_; clear hF; intro a hF
  refine L_nil ?_
  refine hK16 _ _ ?_
  refine wp_seq_k fun K17 hK17 => ?_
  refine wp_region_lit ?_
  refine Vp hF (.int .i64 64) ?_; clear hF; intro a hF
  refine Vp hF (.int .u64 ((n : Int))) ?_; clear hF; intro a hF
  refine Vp hF (.int .u64 15) ?_; clear hF; intro a hF
  refine Vr hF (.int .u64 (((n % 16 : Nat) : Int))) (x_int (x := IntKind.u64.wrap (((BitVec.ofInt 64 ((n : Int)) &&& BitVec.ofInt 64 15).toNat : Nat) : Int)) (and_mask (x := n) (k := 4) (by omega) (by omega)) (by kernel_rfl)) ?_; clear hF; intro a hF
  refine Vr hF (.int .u8 (bt zDFmtW ((n % 16 : Nat) : Int))) (x_idxStr (s := zDFmtW) (k := .u64) (i := ((n % 16 : Nat) : Int)) rfl (by kernel_rfl) (by kernel_rfl) (by kernel_rfl) (by omega) (by show ((n % 16 : Nat) : Int) < ((36 : Nat) : Int); omega)) ?_; clear hF; intro a hF
  refine Vp hF (.pointer (some ⟨b1, 64, none⟩)) ?_; clear hF; intro a hF
  obtain ⟨W4, hst, hO1⟩ := run_storeAt (P := Tryz.prog) (k := 1) (T := 5) (off := 64) (v := .int .u8 (bt zDFmtW ((n % 16 : Nat) : Int))) (cs := (Array.replicate 65 (.int .u8 0) ++ #[])) (cs' := (Array.replicate 64 (.int .u8 0) ++ #[.int .u8 (bt zDFmtW ((n % 16 : Nat) : Int))])) hO (by kernel_rfl) (by kernel_rfl) (by kernel_rfl) (Nat.le_of_ble_eq_true (by kernel_rfl)) (by kernel_rfl) (.head _)
  refine L_skip hF (by kernel_rfl) (by kernel_rfl) (x_store (p := .pointer (some ⟨b1, 64, none⟩)) (v := .int .u8 (bt zDFmtW ((n % 16 : Nat) : Int))) rfl (by kernel_rfl) (by kernel_rfl) hst) (by kernel_rfl) ?_
  clear hst hF; intro a hF; replace hO := hO1; clear hO1
  refine L_nil ?_
  refine hK17 _ _ ?_
  refine wp_region_lit ?_
  refine Vp hF (.int .u64 ((n : Int))) ?_; clear hF; intro a hF
  refine Vp hF (.int .u64 4) ?_; clear hF; intro a hF
  refine Vr hF (.int .u64 (((n / 16 : Nat) : Int))) (x_int (x := ((n : Int)).fdiv 16) (fdiv16 n) (by kernel_rfl)) ?_; clear hF; intro a hF
  refine Vp hF (.int .u64 (((n / 16 : Nat) : Int))) ?_; clear hF; intro a hF
  refine L_nil ?_
  refine block_normal ?_
  refine loopR ?_
  refine wp_seq_k fun K18 hK18 => ?_
  refine wp_seq_k fun K19 hK19 => ?_
  refine wp_region_lit ?_
  refine Vp hF (.int .u64 (((n / 16 : Nat) : Int))) ?_; clear hF; intro a hF
  refine Vp hF (.int .u64 16) ?_; clear hF; intro a hF
  refine Vp hF (.bool (decide (((n / 16 : Nat) : Int) ≥ 16))) ?_; clear hF; intro a hF
  refine L_nil ?_
  refine hK19 _ _ ?_
  by_cases q2 : ((n / 16 : Nat) : Int) ≥ 16
  ·
   replace hF := hF.know (d := 46) (v' := .bool true) (by kernel_rfl) (congrArg Value.bool (decide_eq_true q2))
   refine cond_t hF (by kernel_rfl) (by kernel_rfl) ?_
   refine wp_skip ?_
   refine hK18 _ _ ?_
   refine wp_block ?_
   refine wp_seq_k fun K20 hK20 => ?_
   refine wp_region_lit ?_
   refine Vp hF (.int .i64 64) ?_; clear hF; intro a hF
   refine Vp hF (.int .i64 63) ?_; clear hF; intro a hF
   refine Vp hF (.int .i64 63) ?_; clear hF; intro a hF
   refine L_nil ?_
   refine hK20 _ _ ?_
   refine wp_seq_k fun K21 hK21 => ?_
   refine wp_region_lit ?_
   refine Vp hF (.int .i64 63) ?_; clear hF; intro a hF
   refine Vp hF (.int .u64 (((n / 16 : Nat) : Int))) ?_; clear hF; intro a hF
   refine Vp hF (.int .u64 15) ?_; clear hF; intro a hF
   refine Vr hF (.int .u64 ((((n / 16 : Nat) % 16 : Nat) : Int))) (x_int (x := IntKind.u64.wrap (((BitVec.ofInt 64 (((n / 16 : Nat) : Int)) &&& BitVec.ofInt 64 15).toNat : Nat) : Int)) (and_mask (x := (n / 16 : Nat)) (k := 4) (by omega) (by omega)) (by kernel_rfl)) ?_; clear hF; intro a hF
   refine Vr hF (.int .u8 (bt zDFmtW (((n / 16 : Nat) % 16 : Nat) : Int))) (x_idxStr (s := zDFmtW) (k := .u64) (i := (((n / 16 : Nat) % 16 : Nat) : Int)) rfl (by kernel_rfl) (by kernel_rfl) (by kernel_rfl) (by omega) (by show (((n / 16 : Nat) % 16 : Nat) : Int) < ((36 : Nat) : Int); omega)) ?_; clear hF; intro a hF
   refine Vp hF (.pointer (some ⟨b1, 63, none⟩)) ?_; clear hF; intro a hF
   obtain ⟨W5, hst, hO1⟩ := run_storeAt (P := Tryz.prog) (k := 1) (T := 5) (off := 63) (v := .int .u8 (bt zDFmtW (((n / 16 : Nat) % 16 : Nat) : Int))) (cs := (Array.replicate 64 (.int .u8 0) ++ #[.int .u8 (bt zDFmtW ((n % 16 : Nat) : Int))])) (cs' := (Array.replicate 63 (.int .u8 0) ++ #[.int .u8 (bt zDFmtW (((n / 16 : Nat) % 16 : Nat) : Int)), .int .u8 (bt zDFmtW ((n % 16 : Nat) : Int))])) hO (by kernel_rfl) (by kernel_rfl) (by kernel_rfl) (Nat.le_of_ble_eq_true (by kernel_rfl)) (by kernel_rfl) (.head _)
   refine L_skip hF (by kernel_rfl) (by kernel_rfl) (x_store (p := .pointer (some ⟨b1, 63, none⟩)) (v := .int .u8 (bt zDFmtW (((n / 16 : Nat) % 16 : Nat) : Int))) rfl (by kernel_rfl) (by kernel_rfl) hst) (by kernel_rfl) ?_
   clear hst hF; intro a hF; replace hO := hO1; clear hO1
   refine L_nil ?_
   refine hK21 _ _ ?_
   refine wp_region_lit ?_
   refine Vp hF (.int .u64 (((n / 16 : Nat) : Int))) ?_; clear hF; intro a hF
   refine Vp hF (.int .u64 4) ?_; clear hF; intro a hF
   refine Vr hF (.int .u64 ((((n / 16 : Nat) / 16 : Nat) : Int))) (x_int (x := (((n / 16 : Nat) : Int)).fdiv 16) (fdiv16 (n / 16 : Nat)) (by kernel_rfl)) ?_; clear hF; intro a hF
   refine Vp hF (.int .u64 ((((n / 16 : Nat) / 16 : Nat) : Int))) ?_; clear hF; intro a hF
   refine L_nil ?_
   refine block_normal ?_
   refine loopR ?_
   refine wp_seq_k fun K22 hK22 => ?_
   refine wp_seq_k fun K23 hK23 => ?_
   refine wp_region_lit ?_
   refine Vp hF (.int .u64 ((((n / 16 : Nat) / 16 : Nat) : Int))) ?_; clear hF; intro a hF
   refine Vp hF (.int .u64 16) ?_; clear hF; intro a hF
   refine Vp hF (.bool (decide ((((n / 16 : Nat) / 16 : Nat) : Int) ≥ 16))) ?_; clear hF; intro a hF
   refine L_nil ?_
   refine hK23 _ _ ?_
   by_cases q3 : (((n / 16 : Nat) / 16 : Nat) : Int) ≥ 16
   ·
    replace hF := hF.know (d := 46) (v' := .bool true) (by kernel_rfl) (congrArg Value.bool (decide_eq_true q3))
    refine cond_t hF (by kernel_rfl) (by kernel_rfl) ?_
    refine wp_skip ?_
    refine hK22 _ _ ?_
    refine wp_block ?_
    refine wp_seq_k fun K24 hK24 => ?_
    refine wp_region_lit ?_
    refine Vp hF (.int .i64 63) ?_; clear hF; intro a hF
    refine Vp hF (.int .i64 62) ?_; clear hF; intro a hF
    refine Vp hF (.int .i64 62) ?_; clear hF; intro a hF
    refine L_nil ?_
    refine hK24 _ _ ?_
    refine wp_seq_k fun K25 hK25 => ?_
    refine wp_region_lit ?_
    refine Vp hF (.int .i64 62) ?_; clear hF; intro a hF
    refine Vp hF (.int .u64 ((((n / 16 : Nat) / 16 : Nat) : Int))) ?_; clear hF; intro a hF
    refine Vp hF (.int .u64 15) ?_; clear hF; intro a hF
    refine Vr hF (.int .u64 (((((n / 16 : Nat) / 16 : Nat) % 16 : Nat) : Int))) (x_int (x := IntKind.u64.wrap (((BitVec.ofInt 64 ((((n / 16 : Nat) / 16 : Nat) : Int)) &&& BitVec.ofInt 64 15).toNat : Nat) : Int)) (and_mask (x := ((n / 16 : Nat) / 16 : Nat)) (k := 4) (by omega) (by omega)) (by kernel_rfl)) ?_; clear hF; intro a hF
    refine Vr hF (.int .u8 (bt zDFmtW ((((n / 16 : Nat) / 16 : Nat) % 16 : Nat) : Int))) (x_idxStr (s := zDFmtW) (k := .u64) (i := ((((n / 16 : Nat) / 16 : Nat) % 16 : Nat) : Int)) rfl (by kernel_rfl) (by kernel_rfl) (by kernel_rfl) (by omega) (by show ((((n / 16 : Nat) / 16 : Nat) % 16 : Nat) : Int) < ((36 : Nat) : Int); omega)) ?_; clear hF; intro a hF
    refine Vp hF (.pointer (some ⟨b1, 62, none⟩)) ?_; clear hF; intro a hF
    obtain ⟨W6, hst, hO1⟩ := run_storeAt (P := Tryz.prog) (k := 1) (T := 5) (off := 62) (v := .int .u8 (bt zDFmtW ((((n / 16 : Nat) / 16 : Nat) % 16 : Nat) : Int))) (cs := (Array.replicate 63 (.int .u8 0) ++ #[.int .u8 (bt zDFmtW (((n / 16 : Nat) % 16 : Nat) : Int)), .int .u8 (bt zDFmtW ((n % 16 : Nat) : Int))])) (cs' := (Array.replicate 62 (.int .u8 0) ++ #[.int .u8 (bt zDFmtW ((((n / 16 : Nat) / 16 : Nat) % 16 : Nat) : Int)), .int .u8 (bt zDFmtW (((n / 16 : Nat) % 16 : Nat) : Int)), .int .u8 (bt zDFmtW ((n % 16 : Nat) : Int))])) hO (by kernel_rfl) (by kernel_rfl) (by kernel_rfl) (Nat.le_of_ble_eq_true (by kernel_rfl)) (by kernel_rfl) (.head _)
    refine L_skip hF (by kernel_rfl) (by kernel_rfl) (x_store (p := .pointer (some ⟨b1, 62, none⟩)) (v := .int .u8 (bt zDFmtW ((((n / 16 : Nat) / 16 : Nat) % 16 : Nat) : Int))) rfl (by kernel_rfl) (by kernel_rfl) hst) (by kernel_rfl) ?_
    clear hst hF; intro a hF; replace hO := hO1; clear hO1
    refine L_nil ?_
    refine hK25 _ _ ?_
    refine wp_region_lit ?_
    refine Vp hF (.int .u64 ((((n / 16 : Nat) / 16 : Nat) : Int))) ?_; clear hF; intro a hF
    refine Vp hF (.int .u64 4) ?_; clear hF; intro a hF
    refine Vr hF (.int .u64 (((((n / 16 : Nat) / 16 : Nat) / 16 : Nat) : Int))) (x_int (x := ((((n / 16 : Nat) / 16 : Nat) : Int)).fdiv 16) (fdiv16 ((n / 16 : Nat) / 16 : Nat)) (by kernel_rfl)) ?_; clear hF; intro a hF
    refine Vp hF (.int .u64 (((((n / 16 : Nat) / 16 : Nat) / 16 : Nat) : Int))) ?_; clear hF; intro a hF
    refine L_nil ?_
    refine block_normal ?_
    refine loopR ?_
    refine wp_seq_k fun K26 hK26 => ?_
    refine wp_seq_k fun K27 hK27 => ?_
    refine wp_region_lit ?_
    refine Vp hF (.int .u64 (((((n / 16 : Nat) / 16 : Nat) / 16 : Nat) : Int))) ?_; clear hF; intro a hF
    refine Vp hF (.int .u64 16) ?_; clear hF; intro a hF
    refine Vp hF (.bool (decide (((((n / 16 : Nat) / 16 : Nat) / 16 : Nat) : Int) ≥ 16))) ?_; clear hF; intro a hF
    refine L_nil ?_
    refine hK27 _ _ ?_
    by_cases q4 : ((((n / 16 : Nat) / 16 : Nat) / 16 : Nat) : Int) ≥ 16
    ·
     replace hF := hF.know (d := 46) (v' := .bool true) (by kernel_rfl) (congrArg Value.bool (decide_eq_true q4))
     refine cond_t hF (by kernel_rfl) (by kernel_rfl) ?_
     refine wp_skip ?_
     refine hK26 _ _ ?_
     refine wp_block ?_
     refine wp_seq_k fun K28 hK28 => ?_
     refine wp_region_lit ?_
     refine Vp hF (.int .i64 62) ?_; clear hF; intro a hF
     refine Vp hF (.int .i64 61) ?_; clear hF; intro a hF
     refine Vp hF (.int .i64 61) ?_; clear hF; intro a hF
     refine L_nil ?_
     refine hK28 _ _ ?_
     refine wp_seq_k fun K29 hK29 => ?_
     refine wp_region_lit ?_
     refine Vp hF (.int .i64 61) ?_; clear hF; intro a hF
     refine Vp hF (.int .u64 (((((n / 16 : Nat) / 16 : Nat) / 16 : Nat) : Int))) ?_; clear hF; intro a hF
     refine Vp hF (.int .u64 15) ?_; clear hF; intro a hF
     refine Vr hF (.int .u64 ((((((n / 16 : Nat) / 16 : Nat) / 16 : Nat) % 16 : Nat) : Int))) (x_int (x := IntKind.u64.wrap (((BitVec.ofInt 64 (((((n / 16 : Nat) / 16 : Nat) / 16 : Nat) : Int)) &&& BitVec.ofInt 64 15).toNat : Nat) : Int)) (and_mask (x := (((n / 16 : Nat) / 16 : Nat) / 16 : Nat)) (k := 4) (by omega) (by omega)) (by kernel_rfl)) ?_; clear hF; intro a hF
     refine Vr hF (.int .u8 (bt zDFmtW (((((n / 16 : Nat) / 16 : Nat) / 16 : Nat) % 16 : Nat) : Int))) (x_idxStr (s := zDFmtW) (k := .u64) (i := (((((n / 16 : Nat) / 16 : Nat) / 16 : Nat) % 16 : Nat) : Int)) rfl (by kernel_rfl) (by kernel_rfl) (by kernel_rfl) (by omega) (by show (((((n / 16 : Nat) / 16 : Nat) / 16 : Nat) % 16 : Nat) : Int) < ((36 : Nat) : Int); omega)) ?_; clear hF; intro a hF
     refine Vp hF (.pointer (some ⟨b1, 61, none⟩)) ?_; clear hF; intro a hF
     obtain ⟨W7, hst, hO1⟩ := run_storeAt (P := Tryz.prog) (k := 1) (T := 5) (off := 61) (v := .int .u8 (bt zDFmtW (((((n / 16 : Nat) / 16 : Nat) / 16 : Nat) % 16 : Nat) : Int))) (cs := (Array.replicate 62 (.int .u8 0) ++ #[.int .u8 (bt zDFmtW ((((n / 16 : Nat) / 16 : Nat) % 16 : Nat) : Int)), .int .u8 (bt zDFmtW (((n / 16 : Nat) % 16 : Nat) : Int)), .int .u8 (bt zDFmtW ((n % 16 : Nat) : Int))])) (cs' := (Array.replicate 61 (.int .u8 0) ++ #[.int .u8 (bt zDFmtW (((((n / 16 : Nat) / 16 : Nat) / 16 : Nat) % 16 : Nat) : Int)), .int .u8 (bt zDFmtW ((((n / 16 : Nat) / 16 : Nat) % 16 : Nat) : Int)), .int .u8 (bt zDFmtW (((n / 16 : Nat) % 16 : Nat) : Int)), .int .u8 (bt zDFmtW ((n % 16 : Nat) : Int))])) hO (by kernel_rfl) (by kernel_rfl) (by kernel_rfl) (Nat.le_of_ble_eq_true (by kernel_rfl)) (by kernel_rfl) (.head _)
     refine L_skip hF (by kernel_rfl) (by kernel_rfl) (x_store (p := .pointer (some ⟨b1, 61, none⟩)) (v := .int .u8 (bt zDFmtW (((((n / 16 : Nat) / 16 : Nat) / 16 : Nat) % 16 : Nat) : Int))) rfl (by kernel_rfl) (by kernel_rfl) hst) (by kernel_rfl) ?_
     clear hst hF; intro a hF; replace hO := hO1; clear hO1
     refine L_nil ?_
     refine hK29 _ _ ?_
     refine wp_region_lit ?_
     refine Vp hF (.int .u64 (((((n / 16 : Nat) / 16 : Nat) / 16 : Nat) : Int))) ?_; clear hF; intro a hF
     refine Vp hF (.int .u64 4) ?_; clear hF; intro a hF
     refine Vr hF (.int .u64 ((((((n / 16 : Nat) / 16 : Nat) / 16 : Nat) / 16 : Nat) : Int))) (x_int (x := (((((n / 16 : Nat) / 16 : Nat) / 16 : Nat) : Int)).fdiv 16) (fdiv16 (((n / 16 : Nat) / 16 : Nat) / 16 : Nat)) (by kernel_rfl)) ?_; clear hF; intro a hF
     refine Vp hF (.int .u64 ((((((n / 16 : Nat) / 16 : Nat) / 16 : Nat) / 16 : Nat) : Int))) ?_; clear hF; intro a hF
     refine L_nil ?_
     refine block_normal ?_
     exfalso; omega
    ·
     replace hF := hF.know (d := 46) (v' := .bool false) (by kernel_rfl) (congrArg Value.bool (decide_eq_false q4))
     refine cond_f hF (by kernel_rfl) (by kernel_rfl) ?_
     refine wp_exit ?_
     refine then_exit ?_
     refine then_exit ?_
     refine inBlock_hit ?_
     refine hK13 _ _ ?_
     refine wp_seq_k fun K30 hK30 => ?_
     refine wp_region_lit ?_
     refine Vp hF (.int .i64 62) ?_; clear hF; intro a hF
     refine Vp hF (.int .i64 61) ?_; clear hF; intro a hF
     refine Vp hF (.int .i64 61) ?_; clear hF; intro a hF
     refine L_nil ?_
     refine hK30 _ _ ?_
     refine wp_region_lit ?_
     refine Vp hF (.int .i64 61) ?_; clear hF; intro a hF
     refine Vp hF (.int .u64 (((((n / 16 : Nat) / 16 : Nat) / 16 : Nat) : Int))) ?_; clear hF; intro a hF
     refine Vr hF (.int .u8 (bt zDFmtW ((((n / 16 : Nat) / 16 : Nat) / 16 : Nat) : Int))) (x_idxStr (s := zDFmtW) (k := .u64) (i := ((((n / 16 : Nat) / 16 : Nat) / 16 : Nat) : Int)) rfl (by kernel_rfl) (by kernel_rfl) (by kernel_rfl) (by omega) (by show ((((n / 16 : Nat) / 16 : Nat) / 16 : Nat) : Int) < ((36 : Nat) : Int); omega)) ?_; clear hF; intro a hF
     refine Vp hF (.pointer (some ⟨b1, 61, none⟩)) ?_; clear hF; intro a hF
     obtain ⟨W8, hst, hO1⟩ := run_storeAt (P := Tryz.prog) (k := 1) (T := 5) (off := 61) (v := .int .u8 (bt zDFmtW ((((n / 16 : Nat) / 16 : Nat) / 16 : Nat) : Int))) (cs := (Array.replicate 62 (.int .u8 0) ++ #[.int .u8 (bt zDFmtW ((((n / 16 : Nat) / 16 : Nat) % 16 : Nat) : Int)), .int .u8 (bt zDFmtW (((n / 16 : Nat) % 16 : Nat) : Int)), .int .u8 (bt zDFmtW ((n % 16 : Nat) : Int))])) (cs' := (Array.replicate 61 (.int .u8 0) ++ #[.int .u8 (bt zDFmtW ((((n / 16 : Nat) / 16 : Nat) / 16 : Nat) : Int)), .int .u8 (bt zDFmtW ((((n / 16 : Nat) / 16 : Nat) % 16 : Nat) : Int)), .int .u8 (bt zDFmtW (((n / 16 : Nat) % 16 : Nat) : Int)), .int .u8 (bt zDFmtW ((n % 16 : Nat) : Int))])) hO (by kernel_rfl) (by kernel_rfl) (by kernel_rfl) (Nat.le_of_ble_eq_true (by kernel_rfl)) (by kernel_rfl) (.head _)
     refine L_skip hF (by kernel_rfl) (by kernel_rfl) (x_store (p := .pointer (some ⟨b1, 61, none⟩)) (v := .int .u8 (bt zDFmtW ((((n / 16 : Nat) / 16 : Nat) / 16 : Nat) : Int))) rfl (by kernel_rfl) (by kernel_rfl) hst) (by kernel_rfl) ?_
     clear hst hF; intro a hF; replace hO := hO1; clear hO1
     refine L_nil ?_
     refine hK8 _ _ ?_
     refine wp_seq_k fun K31 hK31 => ?_
     refine wp_seq_k fun K32 hK32 => ?_
     refine wp_region_lit ?_
     refine Vp hF (.bool false) ?_; clear hF; intro a hF
     refine L_nil ?_
     refine hK32 _ _ ?_
     refine cond_f hF (by kernel_rfl) (by kernel_rfl) ?_
     refine wp_skip ?_
     refine hK31 _ _ ?_
     refine wp_seq_k fun K33 hK33 => ?_
     refine wp_seq_k fun K34 hK34 => ?_
     refine wp_region_lit ?_
     refine Vp hF (.bool false) ?_; clear hF; intro a hF
     refine L_nil ?_
     refine hK34 _ _ ?_
     refine cond_f hF (by kernel_rfl) (by kernel_rfl) ?_
     refine wp_skip ?_
     refine hK33 _ _ ?_
     refine wp_seq_k fun K35 hK35 => ?_
     refine wp_region_lit ?_
     refine Vp hF (.int .i64 61) ?_; clear hF; intro a hF
     refine Vr hF (.slice (some ⟨b1, 61, none⟩) 4 4) (x_slArr (b := b1) (off := 0) (n := 65) (elem := 5) (lo := 61) (hi := 65) rfl (by kernel_rfl) (by kernel_rfl) (by kernel_rfl) ⟨.i64, (by kernel_rfl)⟩ rfl (by omega) (by omega) (by omega) (by kernel_rfl) (by first | rfl | omega) (by first | rfl | omega)) ?_; clear hF; intro a hF
     refine Vr hF (.string (⟨([(btB zDFmtW ((((n / 16 : Nat) / 16 : Nat) / 16 : Nat) : Int)), (btB zDFmtW ((((n / 16 : Nat) / 16 : Nat) % 16 : Nat) : Int)), (btB zDFmtW (((n / 16 : Nat) % 16 : Nat) : Int)), (btB zDFmtW ((n % 16 : Nat) : Int))] : List UInt8).toArray⟩ : ByteArray)) (x_conv (run_bytes_string (P := Tryz.prog) (src := 46) (dst := 9) (e := 5) (p := some ⟨b1, 61, none⟩) (l := ([(btB zDFmtW ((((n / 16 : Nat) / 16 : Nat) / 16 : Nat) : Int)), (btB zDFmtW ((((n / 16 : Nat) / 16 : Nat) % 16 : Nat) : Int)), (btB zDFmtW (((n / 16 : Nat) % 16 : Nat) : Int)), (btB zDFmtW ((n % 16 : Nat) : Int))] : List UInt8)) (c := 4) (SlAt.blkAt hO List.mem_cons_self (by kernel_rfl)) Tryz.underlying46 Tryz.underlying5 Tryz.underlying9) rfl (by kernel_rfl)) ?_; clear hF; intro a hF
     refine Vp hF (.string (⟨([(btB zDFmtW ((((n / 16 : Nat) / 16 : Nat) / 16 : Nat) : Int)), (btB zDFmtW ((((n / 16 : Nat) / 16 : Nat) % 16 : Nat) : Int)), (btB zDFmtW (((n / 16 : Nat) % 16 : Nat) : Int)), (btB zDFmtW ((n % 16 : Nat) : Int))] : List UInt8).toArray⟩ : ByteArray)) ?_; clear hF; intro a hF
     refine L_nil ?_
     refine hK35 _ _ ?_
     refine wp_ret ?_
     refine ret2 hF (v := .slice none 0 0) (u := .string (⟨([(btB zDFmtW ((((n / 16 : Nat) / 16 : Nat) / 16 : Nat) : Int)), (btB zDFmtW ((((n / 16 : Nat) / 16 : Nat) % 16 : Nat) : Int)), (btB zDFmtW (((n / 16 : Nat) % 16 : Nat) : Int)), (btB zDFmtW ((n % 16 : Nat) : Int))] : List UInt8).toArray⟩ : ByteArray)) rfl (resT (by kernel_rfl)) (resT (by kernel_rfl)) (by refine ⟨?_, hO.nil⟩; first | exact congrArg (fun l : List UInt8 => Value.tuple #[.slice none 0 0, .string ⟨l.toArray⟩]) (hexT_1 (by assumption)) | exact congrArg (fun l : List UInt8 => Value.tuple #[.slice none 0 0, .string ⟨l.toArray⟩]) (hexT_2 (by assumption) (by assumption)) | exact congrArg (fun l : List UInt8 => Value.tuple #[.slice none 0 0, .string ⟨l.toArray⟩]) (hexT_3 (by assumption) (by assumption)) | exact congrArg (fun l : List UInt8 => Value.tuple #[.slice none 0 0, .string ⟨l.toArray⟩]) (hexT_4 (by assumption) (by assumption))) .ret (.inl rfl)
   ·
    replace hF := hF.know (d := 46) (v' := .bool false) (by kernel_rfl) (congrArg Value.bool (decide_eq_false q3))
    refine cond_f hF (by kernel_rfl) (by kernel_rfl) ?_
    refine wp_exit ?_
    refine then_exit ?_
    refine then_exit ?_
    refine inBlock_hit ?_
    refine hK13 _ _ ?_
    refine wp_seq_k fun K36 hK36 => ?_
    refine wp_region_lit ?_
    refine Vp hF (.int .i64 63) ?_; clear hF; intro a hF
    refine Vp hF (.int .i64 62) ?_; clear hF; intro a hF
    refine Vp hF (.int .i64 62) ?_; clear hF; intro a hF
    refine L_nil ?_
    refine hK36 _ _ ?_
    refine wp_region_lit ?_
    refine Vp hF (.int .i64 62) ?_; clear hF; intro a hF
    refine Vp hF (.int .u64 ((((n / 16 : Nat) / 16 : Nat) : Int))) ?_; clear hF; intro a hF
    refine Vr hF (.int .u8 (bt zDFmtW (((n / 16 : Nat) / 16 : Nat) : Int))) (x_idxStr (s := zDFmtW) (k := .u64) (i := (((n / 16 : Nat) / 16 : Nat) : Int)) rfl (by kernel_rfl) (by kernel_rfl) (by kernel_rfl) (by omega) (by show (((n / 16 : Nat) / 16 : Nat) : Int) < ((36 : Nat) : Int); omega)) ?_; clear hF; intro a hF
    refine Vp hF (.pointer (some ⟨b1, 62, none⟩)) ?_; clear hF; intro a hF
    obtain ⟨W9, hst, hO1⟩ := run_storeAt (P := Tryz.prog) (k := 1) (T := 5) (off := 62) (v := .int .u8 (bt zDFmtW (((n / 16 : Nat) / 16 : Nat) : Int))) (cs := (Array.replicate 63 (.int .u8 0) ++ #[.int .u8 (bt zDFmtW (((n / 16 : Nat) % 16 : Nat) : Int)), .int .u8 (bt zDFmtW ((n % 16 : Nat) : Int))])) (cs' := (Array.replicate 62 (.int .u8 0) ++ #[.int .u8 (bt zDFmtW (((n / 16 : Nat) / 16 : Nat) : Int)), .int .u8 (bt zDFmtW (((n / 16 : Nat) % 16 : Nat) : Int)), .int .u8 (bt zDFmtW ((n % 16 : Nat) : Int))])) hO (by kernel_rfl) (by kernel_rfl) (by kernel_rfl) (Nat.le_of_ble_eq_true (by kernel_rfl)) (by kernel_rfl) (.head _)
    refine L_skip hF (by kernel_rfl) (by kernel_rfl) (x_store (p := .pointer (some ⟨b1, 62, none⟩)) (v := .int .u8 (bt zDFmtW (((n / 16 : Nat) / 16 : Nat) : Int))) rfl (by kernel_rfl) (by kernel_rfl) hst) (by kernel_rfl) ?_
    clear hst hF; intro a hF; replace hO := hO1; clear hO1
    refine L_nil ?_
    refine hK8 _ _ ?_
    refine wp_seq_k fun K37 hK37 => ?_
    refine wp_seq_k fun K38 hK38 => ?_
    refine wp_region_lit ?_
    refine Vp hF (.bool false) ?_; clear hF; intro a hF
    refine L_nil ?_
    refine hK38 _ _ ?_
    refine cond_f hF (by kernel_rfl) (by kernel_rfl) ?_
    refine wp_skip ?_
    refine hK37 _ _ ?_
    refine wp_seq_k fun K39 hK39 => ?_
    refine wp_seq_k fun K40 hK40 => ?_
    refine wp_region_lit ?_
    refine Vp hF (.bool false) ?_; clear hF; intro a hF
    refine L_nil ?_
    refine hK40 _ _ ?_
    refine cond_f hF (by kernel_rfl) (by kernel_rfl) ?_
    refine wp_skip ?_
    refine hK39 _ _ ?_
    refine wp_seq_k fun K41 hK41 => ?_
    refine wp_region_lit ?_
    refine Vp hF (.int .i64 62) ?_; clear hF; intro a hF
    refine Vr hF (.slice (some ⟨b1, 62, none⟩) 3 3) (x_slArr (b := b1) (off := 0) (n := 65) (elem := 5) (lo := 62) (hi := 65) rfl (by kernel_rfl) (by kernel_rfl) (by kernel_rfl) ⟨.i64, (by kernel_rfl)⟩ rfl (by omega) (by omega) (by omega) (by kernel_rfl) (by first | rfl | omega) (by first | rfl | omega)) ?_; clear hF; intro a hF
    refine Vr hF (.string (⟨([(btB zDFmtW (((n / 16 : Nat) / 16 : Nat) : Int)), (btB zDFmtW (((n / 16 : Nat) % 16 : Nat) : Int)), (btB zDFmtW ((n % 16 : Nat) : Int))] : List UInt8).toArray⟩ : ByteArray)) (x_conv (run_bytes_string (P := Tryz.prog) (src := 46) (dst := 9) (e := 5) (p := some ⟨b1, 62, none⟩) (l := ([(btB zDFmtW (((n / 16 : Nat) / 16 : Nat) : Int)), (btB zDFmtW (((n / 16 : Nat) % 16 : Nat) : Int)), (btB zDFmtW ((n % 16 : Nat) : Int))] : List UInt8)) (c := 3) (SlAt.blkAt hO List.mem_cons_self (by kernel_rfl)) Tryz.underlying46 Tryz.underlying5 Tryz.underlying9) rfl (by kernel_rfl)) ?_; clear hF; intro a hF
    refine Vp hF (.string (⟨([(btB zDFmtW (((n / 16 : Nat) / 16 : Nat) : Int)), (btB zDFmtW (((n / 16 : Nat) % 16 : Nat) : Int)), (btB zDFmtW ((n % 16 : Nat) : Int))] : List UInt8).toArray⟩ : ByteArray)) ?_; clear hF; intro a hF
    refine L_nil ?_
    refine hK41 _ _ ?_
    refine wp_ret ?_
    refine ret2 hF (v := .slice none 0 0) (u := .string (⟨([(btB zDFmtW (((n / 16 : Nat) / 16 : Nat) : Int)), (btB zDFmtW (((n / 16 : Nat) % 16 : Nat) : Int)), (btB zDFmtW ((n % 16 : Nat) : Int))] : List UInt8).toArray⟩ : ByteArray)) rfl (resT (by kernel_rfl)) (resT (by kernel_rfl)) (by refine ⟨?_, hO.nil⟩; first | exact congrArg (fun l : List UInt8 => Value.tuple #[.slice none 0 0, .string ⟨l.toArray⟩]) (hexT_1 (by assumption)) | exact congrArg (fun l : List UInt8 => Value.tuple #[.slice none 0 0, .string ⟨l.toArray⟩]) (hexT_2 (by assumption) (by assumption)) | exact congrArg (fun l : List UInt8 => Value.tuple #[.slice none 0 0, .string ⟨l.toArray⟩]) (hexT_3 (by assumption) (by assumption)) | exact congrArg (fun l : List UInt8 => Value.tuple #[.slice none 0 0, .string ⟨l.toArray⟩]) (hexT_4 (by assumption) (by assumption))) .ret (.inl rfl)
  ·
   replace hF := hF.know (d := 46) (v' := .bool false) (by kernel_rfl) (congrArg Value.bool (decide_eq_false q2))
   refine cond_f hF (by kernel_rfl) (by kernel_rfl) ?_
   refine wp_exit ?_
   refine then_exit ?_
   refine then_exit ?_
   refine inBlock_hit ?_
   refine hK13 _ _ ?_
   refine wp_seq_k fun K42 hK42 => ?_
   refine wp_region_lit ?_
   refine Vp hF (.int .i64 64) ?_; clear hF; intro a hF
   refine Vp hF (.int .i64 63) ?_; clear hF; intro a hF
   refine Vp hF (.int .i64 63) ?_; clear hF; intro a hF
   refine L_nil ?_
   refine hK42 _ _ ?_
   refine wp_region_lit ?_
   refine Vp hF (.int .i64 63) ?_; clear hF; intro a hF
   refine Vp hF (.int .u64 (((n / 16 : Nat) : Int))) ?_; clear hF; intro a hF
   refine Vr hF (.int .u8 (bt zDFmtW ((n / 16 : Nat) : Int))) (x_idxStr (s := zDFmtW) (k := .u64) (i := ((n / 16 : Nat) : Int)) rfl (by kernel_rfl) (by kernel_rfl) (by kernel_rfl) (by omega) (by show ((n / 16 : Nat) : Int) < ((36 : Nat) : Int); omega)) ?_; clear hF; intro a hF
   refine Vp hF (.pointer (some ⟨b1, 63, none⟩)) ?_; clear hF; intro a hF
   obtain ⟨W10, hst, hO1⟩ := run_storeAt (P := Tryz.prog) (k := 1) (T := 5) (off := 63) (v := .int .u8 (bt zDFmtW ((n / 16 : Nat) : Int))) (cs := (Array.replicate 64 (.int .u8 0) ++ #[.int .u8 (bt zDFmtW ((n % 16 : Nat) : Int))])) (cs' := (Array.replicate 63 (.int .u8 0) ++ #[.int .u8 (bt zDFmtW ((n / 16 : Nat) : Int)), .int .u8 (bt zDFmtW ((n % 16 : Nat) : Int))])) hO (by kernel_rfl) (by kernel_rfl) (by kernel_rfl) (Nat.le_of_ble_eq_true (by kernel_rfl)) (by kernel_rfl) (.head _)
   refine L_skip hF (by kernel_rfl) (by kernel_rfl) (x_store (p := .pointer (some ⟨b1, 63, none⟩)) (v := .int .u8 (bt zDFmtW ((n / 16 : Nat) : Int))) rfl (by kernel_rfl) (by kernel_rfl) hst) (by kernel_rfl) ?_
   clear hst hF; intro a hF; replace hO := hO1; clear hO1
   refine L_nil ?_
   refine hK8 _ _ ?_
   refine wp_seq_k fun K43 hK43 => ?_
   refine wp_seq_k fun K44 hK44 => ?_
   refine wp_region_lit ?_
   refine Vp hF (.bool false) ?_; clear hF; intro a hF
   refine L_nil ?_
   refine hK44 _ _ ?_
   refine cond_f hF (by kernel_rfl) (by kernel_rfl) ?_
   refine wp_skip ?_
   refine hK43 _ _ ?_
   refine wp_seq_k fun K45 hK45 => ?_
   refine wp_seq_k fun K46 hK46 => ?_
   refine wp_region_lit ?_
   refine Vp hF (.bool false) ?_; clear hF; intro a hF
   refine L_nil ?_
   refine hK46 _ _ ?_
   refine cond_f hF (by kernel_rfl) (by kernel_rfl) ?_
   refine wp_skip ?_
   refine hK45 _ _ ?_
   refine wp_seq_k fun K47 hK47 => ?_
   refine wp_region_lit ?_
   refine Vp hF (.int .i64 63) ?_; clear hF; intro a hF
   refine Vr hF (.slice (some ⟨b1, 63, none⟩) 2 2) (x_slArr (b := b1) (off := 0) (n := 65) (elem := 5) (lo := 63) (hi := 65) rfl (by kernel_rfl) (by kernel_rfl) (by kernel_rfl) ⟨.i64, (by kernel_rfl)⟩ rfl (by omega) (by omega) (by omega) (by kernel_rfl) (by first | rfl | omega) (by first | rfl | omega)) ?_; clear hF; intro a hF
   refine Vr hF (.string (⟨([(btB zDFmtW ((n / 16 : Nat) : Int)), (btB zDFmtW ((n % 16 : Nat) : Int))] : List UInt8).toArray⟩ : ByteArray)) (x_conv (run_bytes_string (P := Tryz.prog) (src := 46) (dst := 9) (e := 5) (p := some ⟨b1, 63, none⟩) (l := ([(btB zDFmtW ((n / 16 : Nat) : Int)), (btB zDFmtW ((n % 16 : Nat) : Int))] : List UInt8)) (c := 2) (SlAt.blkAt hO List.mem_cons_self (by kernel_rfl)) Tryz.underlying46 Tryz.underlying5 Tryz.underlying9) rfl (by kernel_rfl)) ?_; clear hF; intro a hF
   refine Vp hF (.string (⟨([(btB zDFmtW ((n / 16 : Nat) : Int)), (btB zDFmtW ((n % 16 : Nat) : Int))] : List UInt8).toArray⟩ : ByteArray)) ?_; clear hF; intro a hF
   refine L_nil ?_
   refine hK47 _ _ ?_
   refine wp_ret ?_
   refine ret2 hF (v := .slice none 0 0) (u := .string (⟨([(btB zDFmtW ((n / 16 : Nat) : Int)), (btB zDFmtW ((n % 16 : Nat) : Int))] : List UInt8).toArray⟩ : ByteArray)) rfl (resT (by kernel_rfl)) (resT (by kernel_rfl)) (by refine ⟨?_, hO.nil⟩; first | exact congrArg (fun l : List UInt8 => Value.tuple #[.slice none 0 0, .string ⟨l.toArray⟩]) (hexT_1 (by assumption)) | exact congrArg (fun l : List UInt8 => Value.tuple #[.slice none 0 0, .string ⟨l.toArray⟩]) (hexT_2 (by assumption) (by assumption)) | exact congrArg (fun l : List UInt8 => Value.tuple #[.slice none 0 0, .string ⟨l.toArray⟩]) (hexT_3 (by assumption) (by assumption)) | exact congrArg (fun l : List UInt8 => Value.tuple #[.slice none 0 0, .string ⟨l.toArray⟩]) (hexT_4 (by assumption) (by assumption))) .ret (.inl rfl)
 ·
  replace hF := hF.know (d := 46) (v' := .bool false) (by kernel_rfl) (congrArg Value.bool (decide_eq_false q1))
  refine cond_f hF (by kernel_rfl) (by kernel_rfl) ?_
  refine wp_exit ?_
  refine then_exit ?_
  refine then_exit ?_
  refine inBlock_hit ?_
  refine hK13 _ _ ?_
  refine wp_seq_k fun K48 hK48 => ?_
  refine wp_region_lit ?_
  refine Vp hF (.int .i64 65) ?_; clear hF; intro a hF
  refine Vp hF (.int .i64 64) ?_; clear hF; intro a hF
  refine Vp hF (.int .i64 64) ?_; clear hF; intro a hF
  refine L_nil ?_
  refine hK48 _ _ ?_
  refine wp_region_lit ?_
  refine Vp hF (.int .i64 64) ?_; clear hF; intro a hF
  refine Vp hF (.int .u64 ((n : Int))) ?_; clear hF; intro a hF
  refine Vr hF (.int .u8 (bt zDFmtW (n : Int))) (x_idxStr (s := zDFmtW) (k := .u64) (i := (n : Int)) rfl (by kernel_rfl) (by kernel_rfl) (by kernel_rfl) (by omega) (by show (n : Int) < ((36 : Nat) : Int); omega)) ?_; clear hF; intro a hF
  refine Vp hF (.pointer (some ⟨b1, 64, none⟩)) ?_; clear hF; intro a hF
  obtain ⟨W11, hst, hO1⟩ := run_storeAt (P := Tryz.prog) (k := 1) (T := 5) (off := 64) (v := .int .u8 (bt zDFmtW (n : Int))) (cs := (Array.replicate 65 (.int .u8 0) ++ #[])) (cs' := (Array.replicate 64 (.int .u8 0) ++ #[.int .u8 (bt zDFmtW (n : Int))])) hO (by kernel_rfl) (by kernel_rfl) (by kernel_rfl) (Nat.le_of_ble_eq_true (by kernel_rfl)) (by kernel_rfl) (.head _)
  refine L_skip hF (by kernel_rfl) (by kernel_rfl) (x_store (p := .pointer (some ⟨b1, 64, none⟩)) (v := .int .u8 (bt zDFmtW (n : Int))) rfl (by kernel_rfl) (by kernel_rfl) hst) (by kernel_rfl) ?_
  clear hst hF; intro a hF; replace hO := hO1; clear hO1
  refine L_nil ?_
  refine hK8 _ _ ?_
  refine wp_seq_k fun K49 hK49 => ?_
  refine wp_seq_k fun K50 hK50 => ?_
  refine wp_region_lit ?_
  refine Vp hF (.bool false) ?_; clear hF; intro a hF
  refine L_nil ?_
  refine hK50 _ _ ?_
  refine cond_f hF (by kernel_rfl) (by kernel_rfl) ?_
  refine wp_skip ?_
  refine hK49 _ _ ?_
  refine wp_seq_k fun K51 hK51 => ?_
  refine wp_seq_k fun K52 hK52 => ?_
  refine wp_region_lit ?_
  refine Vp hF (.bool false) ?_; clear hF; intro a hF
  refine L_nil ?_
  refine hK52 _ _ ?_
  refine cond_f hF (by kernel_rfl) (by kernel_rfl) ?_
  refine wp_skip ?_
  refine hK51 _ _ ?_
  refine wp_seq_k fun K53 hK53 => ?_
  refine wp_region_lit ?_
  refine Vp hF (.int .i64 64) ?_; clear hF; intro a hF
  refine Vr hF (.slice (some ⟨b1, 64, none⟩) 1 1) (x_slArr (b := b1) (off := 0) (n := 65) (elem := 5) (lo := 64) (hi := 65) rfl (by kernel_rfl) (by kernel_rfl) (by kernel_rfl) ⟨.i64, (by kernel_rfl)⟩ rfl (by omega) (by omega) (by omega) (by kernel_rfl) (by first | rfl | omega) (by first | rfl | omega)) ?_; clear hF; intro a hF
  refine Vr hF (.string (⟨([(btB zDFmtW (n : Int))] : List UInt8).toArray⟩ : ByteArray)) (x_conv (run_bytes_string (P := Tryz.prog) (src := 46) (dst := 9) (e := 5) (p := some ⟨b1, 64, none⟩) (l := ([(btB zDFmtW (n : Int))] : List UInt8)) (c := 1) (SlAt.blkAt hO List.mem_cons_self (by kernel_rfl)) Tryz.underlying46 Tryz.underlying5 Tryz.underlying9) rfl (by kernel_rfl)) ?_; clear hF; intro a hF
  refine Vp hF (.string (⟨([(btB zDFmtW (n : Int))] : List UInt8).toArray⟩ : ByteArray)) ?_; clear hF; intro a hF
  refine L_nil ?_
  refine hK53 _ _ ?_
  refine wp_ret ?_
  refine ret2 hF (v := .slice none 0 0) (u := .string (⟨([(btB zDFmtW (n : Int))] : List UInt8).toArray⟩ : ByteArray)) rfl (resT (by kernel_rfl)) (resT (by kernel_rfl)) (by refine ⟨?_, hO.nil⟩; first | exact congrArg (fun l : List UInt8 => Value.tuple #[.slice none 0 0, .string ⟨l.toArray⟩]) (hexT_1 (by assumption)) | exact congrArg (fun l : List UInt8 => Value.tuple #[.slice none 0 0, .string ⟨l.toArray⟩]) (hexT_2 (by assumption) (by assumption)) | exact congrArg (fun l : List UInt8 => Value.tuple #[.slice none 0 0, .string ⟨l.toArray⟩]) (hexT_3 (by assumption) (by assumption)) | exact congrArg (fun l : List UInt8 => Value.tuple #[.slice none 0 0, .string ⟨l.toArray⟩]) (hexT_4 (by assumption) (by assumption))) .ret (.inl rfl)

set_option maxRecDepth 20000 in
theorem istrconv_FormatInt (n : Nat) (W : World) (hG : LibW W) (hn : n < 65536) : Ret Tryz.prog 156 #[.int .i64 ((n : Int)), .int .i64 16] W fun v W' => v = .string ⟨(hexT n).toArray⟩ ∧ Own W noX [] W' := by
 refine enter Tryz.func156 rfl (n := 54) rfl (by kernel_rfl) (E0 := [(1, .int .i64 16), (0, .int .i64 ((n : Int)))]) (by kernel_rfl) ?_
 intro a hF; have hO := Own.start W noX
 refine wp_seq_k fun K1 hK1 => ?_
 refine wp_region_lit ?_
 refine Vp hF (.string (⟨#[]⟩ : ByteArray)) ?_; clear hF; intro a hF
 refine L_nil ?_
 refine hK1 _ _ ?_
 refine wp_seq_k fun K2 hK2 => ?_
 refine wp_seq_k fun K3 hK3 => ?_
 refine wp_region_lit ?_
 refine Vp hF (.int .i64 16) ?_; clear hF; intro a hF
 refine Vp hF (.bool false) ?_; clear hF; intro a hF
 refine L_nil ?_
 refine hK3 _ _ ?_
 refine cond_f hF (by kernel_rfl) (by kernel_rfl) ?_
 refine wp_skip ?_
 refine hK2 _ _ ?_
 refine wp_seq_k fun K4 hK4 => ?_
 refine wp_region_lit ?_
 refine Vp hF (.int .i64 ((n : Int))) ?_; clear hF; intro a hF
 refine Vr hF (.int .u64 ((n : Int))) (x_int (x := IntKind.u64.wrap ((n : Int))) (u64In (by omega) (by omega)) (by kernel_rfl)) ?_; clear hF; intro a hF
 refine Vp hF (.int .i64 16) ?_; clear hF; intro a hF
 refine Vp hF (.int .i64 ((n : Int))) ?_; clear hF; intro a hF
 refine Vr hF (.bool false) (x_bool (x := decide ((n : Int) < 0)) (decide_eq_false (by omega)) (by kernel_rfl)) ?_; clear hF; intro a hF
 refine Lc hF (formatBits_16 n W (hG.own hO) hn) ?_
 clear hF; rintro _ W1 a ⟨rfl, hk⟩ hF
 replace hO := hO.call0 hk; clear hk
 refine Vp hF (.tuple #[.slice none 0 0, .string (⟨(hexT n).toArray⟩ : ByteArray)]) ?_; clear hF; intro a hF
 refine Vp hF (.slice none 0 0) ?_; clear hF; intro a hF
 refine Vp hF (.string (⟨(hexT n).toArray⟩ : ByteArray)) ?_; clear hF; intro a hF
 refine Vp hF (.slice none 0 0) ?_; clear hF; intro a hF
 refine Vp hF (.string (⟨(hexT n).toArray⟩ : ByteArray)) ?_; clear hF; intro a hF
 refine L_nil ?_
 refine hK4 _ _ ?_
 refine wp_seq_k fun K5 hK5 => ?_
 refine wp_region_lit ?_
 refine Vp hF (.string (⟨(hexT n).toArray⟩ : ByteArray)) ?_; clear hF; intro a hF
 refine Vp hF (.string (⟨(hexT n).toArray⟩ : ByteArray)) ?_; clear hF; intro a hF
 refine L_nil ?_
 refine hK5 _ _ ?_
 refine wp_ret ?_
 refine ret1 hF (v := .string (⟨(hexT n).toArray⟩ : ByteArray)) rfl (resT (by kernel_rfl)) (by refine ⟨?_, hO.nil⟩; first | rfl | (simp [*]; done)) .ret (.inl rfl)

set_option maxRecDepth 20000 in
theorem strconv_FormatInt (n : Nat) (W : World) (hG : LibW W) (hn : n < 65536) : Ret Tryz.prog 128 #[.int .i64 ((n : Int)), .int .i64 16] W fun v W' => v = .string ⟨(hexT n).toArray⟩ ∧ Own W noX [] W' := by
 refine enter Tryz.func128 rfl (n := 8) rfl (by kernel_rfl) (E0 := [(1, .int .i64 16), (0, .int .i64 ((n : Int)))]) (by kernel_rfl) ?_
 intro a hF; have hO := Own.start W noX
 refine wp_seq_k fun K1 hK1 => ?_
 refine wp_region_lit ?_
 refine Vp hF (.string (⟨#[]⟩ : ByteArray)) ?_; clear hF; intro a hF
 refine L_nil ?_
 refine hK1 _ _ ?_
 refine wp_seq_k fun K2 hK2 => ?_
 refine wp_region_lit ?_
 refine Vp hF (.int .i64 ((n : Int))) ?_; clear hF; intro a hF
 refine Vp hF (.int .i64 16) ?_; clear hF; intro a hF
 refine Lc hF (istrconv_FormatInt n W (hG.own hO) hn) ?_
 clear hF; rintro _ W1 a ⟨rfl, hk⟩ hF
 replace hO := hO.call0 hk; clear hk
 refine Vp hF (.string (⟨(hexT n).toArray⟩ : ByteArray)) ?_; clear hF; intro a hF
 refine L_nil ?_
 refine hK2 _ _ ?_
 refine wp_ret ?_
 refine ret1 hF (v := .string (⟨(hexT n).toArray⟩ : ByteArray)) rfl (resT (by kernel_rfl)) (by refine ⟨?_, hO.nil⟩; first | rfl | (simp [*]; done)) .ret (.inl rfl)

set_option maxRecDepth 20000 in
theorem addr_texts (x : Ip) (fa tb : Nat) (W : World) (hG : LibW W) (hab : fa ≤ tb) (hb : tb ≤ 8) : Ret Tryz.prog 83 #[ipV x, .int .i64 ((fa : Int)), .int .i64 ((tb : Int))] W fun v W' => v = .string ⟨(txtJ (atN x) fa (tb - fa)).toArray⟩ ∧ Own W noX [] W' := by
 refine enter Tryz.func83 rfl (n := 24) rfl (by kernel_rfl) (E0 := [(2, .int .i64 ((tb : Int))), (1, .int .i64 ((fa : Int))), (0, ipV x)]) (by kernel_rfl) ?_
 intro a hF; have hO := Own.start W noX
 refine wp_seq_k fun K1 hK1 => ?_
 refine wp_region_lit ?_
 refine L_new hF hO (by kernel_rfl) (by kernel_rfl) (vf := fun b => .pointer (some ⟨b, 0, none⟩)) (ob := .cells #[.bool x.six, .int .u8 ((x.b0.toNat : Int)), .int .u8 ((x.b1.toNat : Int)), .int .u8 ((x.b2.toNat : Int)), .int .u8 ((x.b3.toNat : Int)), .int .u8 ((x.b4.toNat : Int)), .int .u8 ((x.b5.toNat : Int)), .int .u8 ((x.b6.toNat : Int)), .int .u8 ((x.b7.toNat : Int)), .int .u8 ((x.b8.toNat : Int)), .int .u8 ((x.b9.toNat : Int)), .int .u8 ((x.b10.toNat : Int)), .int .u8 ((x.b11.toNat : Int)), .int .u8 ((x.b12.toNat : Int)), .int .u8 ((x.b13.toNat : Int)), .int .u8 ((x.b14.toNat : Int)), .int .u8 ((x.b15.toNat : Int))] 33) (by kernel_rfl) (by kernel_rfl) ?_
 clear hF hO; intro b1 W1 a hO hF
 replace hO := hO.reblk (cs := #[.bool x.six, .int .u8 ((x.b0.toNat : Int)), .int .u8 ((x.b1.toNat : Int)), .int .u8 ((x.b2.toNat : Int)), .int .u8 ((x.b3.toNat : Int)), .int .u8 ((x.b4.toNat : Int)), .int .u8 ((x.b5.toNat : Int)), .int .u8 ((x.b6.toNat : Int)), .int .u8 ((x.b7.toNat : Int)), .int .u8 ((x.b8.toNat : Int)), .int .u8 ((x.b9.toNat : Int)), .int .u8 ((x.b10.toNat : Int)), .int .u8 ((x.b11.toNat : Int)), .int .u8 ((x.b12.toNat : Int)), .int .u8 ((x.b13.toNat : Int)), .int .u8 ((x.b14.toNat : Int)), .int .u8 ((x.b15.toNat : Int))]) (cs' := (ipL x).toArray) (by kernel_rfl) (.head _)
 refine Vp hF (.string (⟨#[]⟩ : ByteArray)) ?_; clear hF; intro a hF
 refine L_nil ?_
 refine hK1 _ _ ?_
 refine wp_seq_k fun K2 hK2 => ?_
 refine wp_region_lit ?_
 refine Vp hF (.slice none 0 0) ?_; clear hF; intro a hF
 refine L_nil ?_
 refine hK2 _ _ ?_
 refine wp_seq_k fun K3 hK3 => ?_
 refine wp_seq_k fun K4 hK4 => ?_
 refine wp_region_lit ?_
 refine Vp hF (.int .i64 ((fa : Int))) ?_; clear hF; intro a hF
 refine Vp hF (.int .i64 ((fa : Int))) ?_; clear hF; intro a hF
 refine L_nil ?_
 refine hK4 _ _ ?_
 refine wp_block ?_
 replace hO := hO.nilRow strL 1 9
 refine loopX (τ := Nat × Option Addr × Nat × List ByteArray) (fun (xτ : Nat × Option Addr × Nat × List ByteArray) a Wx => (fun (i : Nat) (q : Option Addr) (qc : Nat) (acc : List ByteArray) => (fa ≤ i ∧ i ≤ tb ∧ acc = strs x fa (i - fa)) ∧ Fr 24 a [(2, .int .i64 ((tb : Int))), (3, .pointer (some ⟨b1, 0, none⟩)), (6, .string (⟨#[]⟩ : ByteArray)), (7, .slice q acc.length qc), (8, .int .i64 ((i : Int)))] ∧ Own W noX [rowL strL 1 9 q qc acc, .blk b1 (.cells (ipL x).toArray 33 (0, 0))] Wx) (xτ.1) (xτ.2.1) (xτ.2.2.1) (xτ.2.2.2)) (fun (xτ : Nat × Option Addr × Nat × List ByteArray) => (fun (i : Nat) (q : Option Addr) (qc : Nat) (acc : List ByteArray) => tb - i) (xτ.1) (xτ.2.1) (xτ.2.2.1) (xτ.2.2.2)) ((fa, none, 0, ([] : List ByteArray))) ⟨⟨Nat.le_refl _, hab, by rw [Nat.sub_self]; rfl⟩, ?_, ?_⟩ ?_
 · exact hF.restrict ⟨(by kernel_rfl), (by kernel_rfl), (by kernel_rfl), (congrArg some (by first | rfl | exact congrArg (Value.int _) (by omega) | simp)), (congrArg some (by first | rfl | exact congrArg (Value.int _) (by omega) | simp)), trivial⟩
 · exact hO.sub (.cons_cons _ (.cons_cons _ (List.nil_sublist _)))
 clear hF hO; rintro ⟨i, q, qc, acc⟩ a Wl1 ⟨hI, hF, hO⟩ KhK_1 hK_1
 try dsimp only at hI
 refine wp_seq_k fun K5 hK5 => ?_
 refine wp_seq_k fun K6 hK6 => ?_
 refine wp_region_lit ?_
 refine Vp hF (.int .i64 ((i : Int))) ?_; clear hF; intro a hF
 refine Vp hF (.int .i64 ((tb : Int))) ?_; clear hF; intro a hF
 refine Vp hF (.bool (decide ((i : Int) < (tb : Int)))) ?_; clear hF; intro a hF
 refine L_nil ?_
 refine hK6 _ _ ?_
 by_cases q1 : (i : Int) < (tb : Int)
 ·
  replace hF := hF.know (d := 12) (v' := .bool true) (by kernel_rfl) (congrArg Value.bool (decide_eq_true q1))
  refine cond_t hF (by kernel_rfl) (by kernel_rfl) ?_
  refine wp_skip ?_
  refine hK5 _ _ ?_
  refine wp_seq_k fun K7 hK7 => ?_
  refine wp_block ?_
  refine wp_region_lit ?_
  refine Vp hF (.slice q acc.length qc) ?_; clear hF; intro a hF
  refine Vr hF (ipV x) (x_load (p := .pointer (some ⟨b1, 0, none⟩)) rfl (by kernel_rfl) (run_loadA (k := 17) (by kernel_rfl) (by kernel_rfl) (hO.blk (List.mem_cons_of_mem _ List.mem_cons_self)) (by kernel_rfl) (by kernel_rfl))) ?_; clear hF; intro a hF
  refine Vp hF (.int .i64 ((i : Int))) ?_; clear hF; intro a hF
  refine Lc hF ((addr_at x i Wl1 (by omega)).mono fun v W' h => (⟨by rw [h.1, ← atN_eq], h.2⟩ : v = .int .i64 (atN x i : Int) ∧ Own Wl1 noX [] W')) ?_
  clear hF; rintro _ W2 a ⟨rfl, hk⟩ hF
  replace hO := hO.call0 hk; clear hk
  refine Lc hF (strconv_FormatInt (atN x i) W2 (hG.own hO) (by (first | omega | (have hq := atN_lt x i; have hal := congrArg List.length hI.2.2; rw [strs_len] at hal; (try simp only [maxLen] at *); omega)))) ?_
  clear hF; rintro _ W3 a ⟨rfl, hk⟩ hF
  replace hO := hO.call0 hk; clear hk
  refine L_new hF hO (by kernel_rfl) (by kernel_rfl) (vf := fun b => .slice (some ⟨b, 0, none⟩) 1 1) (ob := .cells #[.string (⟨(hexT (atN x i)).toArray⟩ : ByteArray)] 9) (by kernel_rfl) (by kernel_rfl) ?_
  clear hF hO; intro b2 W4 a hO hF
  obtain ⟨p1, cap1, W5, hap, hO1, -⟩ := run_append_row (P := Tryz.prog) (ty := 98) (t := 98) (z := .string (⟨#[]⟩ : ByteArray)) (k := 1) (bytes := 16) (q := some ⟨b2, 0, none⟩) (ys := ([(⟨(hexT (atN x i)).toArray⟩ : ByteArray)] : List ByteArray)) (cq := 1) hO (.tail (.head _)) (by kernel_rfl) (by kernel_rfl) (by kernel_rfl) (by decide) (fun _ => rfl) (fun _ => rfl) (SlAt.blk hO List.mem_cons_self (by kernel_rfl)) (by (try simp only [List.length_append, List.length_take, List.length_drop, List.length_cons, List.length_nil, maxLen]); (first | omega | (have hq := atN_lt x i; have hal := congrArg List.length hI.2.2; rw [strs_len] at hal; (try simp only [maxLen] at *); omega))) (by (try simp only [List.length_append, List.length_take, List.length_drop, List.length_cons, List.length_nil, maxLen]); (first | omega | (have hq := atN_lt x i; have hal := congrArg List.length hI.2.2; rw [strs_len] at hal; (try simp only [maxLen] at *); omega)))
  refine L_valW hF (by kernel_rfl) (by kernel_rfl) (x_app hap rfl (by kernel_rfl) (by kernel_rfl) rfl) (by kernel_rfl) ?_
  clear hap hF; intro a hF; replace hO := hO1; clear hO1
  refine Vp hF (.slice p1 ((acc ++ ([(⟨(hexT (atN x i)).toArray⟩ : ByteArray)] : List ByteArray)).length) cap1) ?_; clear hF; intro a hF
  refine L_nil ?_
  refine block_normal ?_
  refine hK7 _ _ ?_
  refine wp_region_lit ?_
  refine Vp hF (.int .i64 ((i : Int))) ?_; clear hF; intro a hF
  refine Vr hF (.int .i64 ((i : Int) + 1)) (x_int (x := IntKind.i64.wrap ((i : Int) + 1)) (i64In (by omega) (by omega)) (by kernel_rfl)) ?_; clear hF; intro a hF
  refine Vp hF (.int .i64 ((i : Int) + 1)) ?_; clear hF; intro a hF
  refine L_nil ?_
  refine hK_1 ((i + 1, p1, cap1, acc ++ ([(⟨(hexT (atN x i)).toArray⟩ : ByteArray)] : List ByteArray))) _ _ (by first | omega | (dsimp only; omega)) ⟨⟨by omega, by omega, by rw [hI.2.2]; exact strs_next hI.1⟩, ?_, ?_⟩
  · exact hF.restrict ⟨(by kernel_rfl), (by kernel_rfl), (by kernel_rfl), (congrArg some (by first | rfl | exact congrArg (Value.int _) (by omega) | simp)), (congrArg some (by first | rfl | exact congrArg (Value.int _) (by omega) | simp)), trivial⟩
  · exact hO.sub (.cons_cons _ (.cons _ (.cons_cons _ (List.nil_sublist _))))
 ·
  replace hF := hF.know (d := 12) (v' := .bool false) (by kernel_rfl) (congrArg Value.bool (decide_eq_false q1))
  refine cond_f hF (by kernel_rfl) (by kernel_rfl) ?_
  refine wp_exit ?_
  refine then_exit ?_
  refine then_exit ?_
  refine inBlock_hit ?_
  refine hK3 _ _ ?_
  refine wp_seq_k fun K8 hK8 => ?_
  refine wp_region_lit ?_
  refine Vp hF (.slice q acc.length qc) ?_; clear hF; intro a hF
  refine Lc hF (join_ret (q) qc (acc) 58 Wl1 (hO.row List.mem_cons_self) (hO.rowCap List.mem_cons_self) (by rw [hI.2.2, strs_join]; have := txtJ_len (atN x) fa (i - fa); omega) (by rw [hI.2.2, strs_len]; omega)) ?_
  clear hF; rintro _ W6 a ⟨rfl, hk⟩ hF
  replace hO := hO.call0 hk; clear hk
  refine Vp hF (.string (⟨(Lib.join (acc.map (·.data.toList)) [58]).toArray⟩ : ByteArray)) ?_; clear hF; intro a hF
  refine L_nil ?_
  refine hK8 _ _ ?_
  refine wp_ret ?_
  refine ret1 hF (v := .string (⟨(Lib.join (acc.map (·.data.toList)) [58]).toArray⟩ : ByteArray)) rfl (resT (by kernel_rfl)) (by refine ⟨?_, hO.nil⟩; obtain rfl : i = tb := (by omega); rw [hI.2.2, strs_join]) .ret (.inl rfl)

set_option maxRecDepth 20000 in
theorem addr_Format (x : Ip) (W : World) (hG : LibW W) : Ret Tryz.prog 23 #[ipV x] W fun v W' => v = .string (fmtS x) ∧ Own W noX [] W' := by
 have hgap := (gap x).1
 refine enter Tryz.func23 rfl (n := 51) rfl (by kernel_rfl) (E0 := [(0, ipV x)]) (by kernel_rfl) ?_
 intro a hF; have hO := Own.start W noX
 refine wp_seq_k fun K1 hK1 => ?_
 refine wp_region_lit ?_
 refine L_new hF hO (by kernel_rfl) (by kernel_rfl) (vf := fun b => .pointer (some ⟨b, 0, none⟩)) (ob := .cells #[.bool x.six, .int .u8 ((x.b0.toNat : Int)), .int .u8 ((x.b1.toNat : Int)), .int .u8 ((x.b2.toNat : Int)), .int .u8 ((x.b3.toNat : Int)), .int .u8 ((x.b4.toNat : Int)), .int .u8 ((x.b5.toNat : Int)), .int .u8 ((x.b6.toNat : Int)), .int .u8 ((x.b7.toNat : Int)), .int .u8 ((x.b8.toNat : Int)), .int .u8 ((x.b9.toNat : Int)), .int .u8 ((x.b10.toNat : Int)), .int .u8 ((x.b11.toNat : Int)), .int .u8 ((x.b12.toNat : Int)), .int .u8 ((x.b13.toNat : Int)), .int .u8 ((x.b14.toNat : Int)), .int .u8 ((x.b15.toNat : Int))] 33) (by kernel_rfl) (by kernel_rfl) ?_
 clear hF hO; intro b1 W1 a hO hF
 replace hO := hO.reblk (cs := #[.bool x.six, .int .u8 ((x.b0.toNat : Int)), .int .u8 ((x.b1.toNat : Int)), .int .u8 ((x.b2.toNat : Int)), .int .u8 ((x.b3.toNat : Int)), .int .u8 ((x.b4.toNat : Int)), .int .u8 ((x.b5.toNat : Int)), .int .u8 ((x.b6.toNat : Int)), .int .u8 ((x.b7.toNat : Int)), .int .u8 ((x.b8.toNat : Int)), .int .u8 ((x.b9.toNat : Int)), .int .u8 ((x.b10.toNat : Int)), .int .u8 ((x.b11.toNat : Int)), .int .u8 ((x.b12.toNat : Int)), .int .u8 ((x.b13.toNat : Int)), .int .u8 ((x.b14.toNat : Int)), .int .u8 ((x.b15.toNat : Int))]) (cs' := (ipL x).toArray) (by kernel_rfl) (.head _)
 refine Vp hF (.string (⟨#[]⟩ : ByteArray)) ?_; clear hF; intro a hF
 refine L_nil ?_
 refine hK1 _ _ ?_
 refine wp_seq_k fun K2 hK2 => ?_
 refine wp_block ?_
 refine wp_seq_k fun K3 hK3 => ?_
 refine wp_region_lit ?_
 refine Vr hF (ipV x) (x_load (p := .pointer (some ⟨b1, 0, none⟩)) rfl (by kernel_rfl) (run_loadA (k := 17) (by kernel_rfl) (by kernel_rfl) (hO.blk List.mem_cons_self) (by kernel_rfl) (by kernel_rfl))) ?_; clear hF; intro a hF
 refine Lc hF (addr_Right x W1) ?_
 clear hF; rintro _ W2 a ⟨rfl, hk⟩ hF
 replace hO := hO.call0 hk; clear hk
 refine Vp hF (.bool (!(rightIp x))) ?_; clear hF; intro a hF
 refine Vp hF (.bool (!(rightIp x))) ?_; clear hF; intro a hF
 refine L_nil ?_
 refine hK3 _ _ ?_
 cases q1 : (rightIp x : Bool)
 ·
  replace hF := hF.know (d := 8) (v' := .bool true) (by kernel_rfl) (congrArg Value.bool (notT q1))
  refine cond_t hF (by kernel_rfl) (by kernel_rfl) ?_
  refine wp_seq_k fun K4 hK4 => ?_
  refine wp_region_lit ?_
  refine Vp hF (.string (⟨#[]⟩ : ByteArray)) ?_; clear hF; intro a hF
  refine L_nil ?_
  refine hK4 _ _ ?_
  refine wp_ret ?_
  refine block_ret ?_
  refine then_ret ?_
  refine ret1 hF (v := .string (⟨#[]⟩ : ByteArray)) rfl (resT (by kernel_rfl)) (by refine ⟨?_, hO.nil⟩; first | (rw [fmtS_no (by assumption)]; done) | (obtain rfl : i = 4 := (by omega); rw [hI.2, quads_join, fmtS_four (by assumption) (by assumption)]; done) | (rw [fmtS_six (by assumption) (by assumption), fmtSix_no (by omega)]; done) | (rw [fmtS_six (by assumption) (by assumption), fmtSix_gap (by omega), ← bcat, ← bcat]; rfl)) .ret (.inl rfl)
 ·
  replace hF := hF.know (d := 8) (v' := .bool false) (by kernel_rfl) (congrArg Value.bool (notF q1))
  refine cond_f hF (by kernel_rfl) (by kernel_rfl) ?_
  refine wp_seq_k fun K5 hK5 => ?_
  refine wp_region_lit ?_
  refine Vp hF (.pointer (some ⟨b1, 0, none⟩)) ?_; clear hF; intro a hF
  refine Vr hF (.bool x.six) (x_load (p := .pointer (some ⟨b1, 0, none⟩)) rfl (by kernel_rfl) (run_load1 (by kernel_rfl) ((hO.cell List.mem_cons_self).trans (by kernel_rfl)))) ?_; clear hF; intro a hF
  refine Vp hF (.bool (!x.six)) ?_; clear hF; intro a hF
  refine Vp hF (.bool (!x.six)) ?_; clear hF; intro a hF
  refine L_nil ?_
  refine hK5 _ _ ?_
  cases q2 : (x.six : Bool)
  ·
   replace hF := hF.know (d := 12) (v' := .bool true) (by kernel_rfl) (congrArg Value.bool (notT q2))
   refine cond_t hF (by kernel_rfl) (by kernel_rfl) ?_
   refine wp_seq_k fun K6 hK6 => ?_
   refine wp_region_lit ?_
   refine Vp hF (.slice none 0 0) ?_; clear hF; intro a hF
   refine L_nil ?_
   refine hK6 _ _ ?_
   refine wp_seq_k fun K7 hK7 => ?_
   refine wp_seq_k fun K8 hK8 => ?_
   refine wp_region_lit ?_
   refine Vp hF (.pointer (some ⟨b1, 1, none⟩)) ?_; clear hF; intro a hF
   refine Vr hF (.slice (some ⟨b1, 1, none⟩) 4 16) (x_slArr (b := b1) (off := 1) (n := 16) (elem := 5) (lo := 0) (hi := 4) rfl (by kernel_rfl) (by kernel_rfl) (by kernel_rfl) rfl ⟨.i64, (by kernel_rfl)⟩ (by omega) (by omega) (by omega) (by kernel_rfl) (by first | rfl | omega) (by first | rfl | omega)) ?_; clear hF; intro a hF
   refine Vp hF (.int .i64 4) ?_; clear hF; intro a hF
   refine Vp hF (.int .i64 0) ?_; clear hF; intro a hF
   refine L_nil ?_
   refine hK8 _ _ ?_
   refine wp_block ?_
   replace hO := hO.nilRow strL 1 9
   refine loopX (τ := Nat × Option Addr × Nat × List ByteArray) (fun (xτ : Nat × Option Addr × Nat × List ByteArray) a Wx => (fun (i : Nat) (q : Option Addr) (qc : Nat) (acc : List ByteArray) => (i ≤ 4 ∧ acc = quads x i) ∧ Fr 51 a [(1, .pointer (some ⟨b1, 0, none⟩)), (2, .string (⟨#[]⟩ : ByteArray)), (3, .slice q acc.length qc), (17, .slice (some ⟨b1, 1, none⟩) 4 16), (18, .int .i64 4), (19, .int .i64 ((i : Int)))] ∧ Own W noX [rowL strL 1 9 q qc acc, .blk b1 (.cells (ipL x).toArray 33 (0, 0))] Wx) (xτ.1) (xτ.2.1) (xτ.2.2.1) (xτ.2.2.2)) (fun (xτ : Nat × Option Addr × Nat × List ByteArray) => (fun (i : Nat) (q : Option Addr) (qc : Nat) (acc : List ByteArray) => 4 - i) (xτ.1) (xτ.2.1) (xτ.2.2.1) (xτ.2.2.2)) ((0, none, 0, ([] : List ByteArray))) ⟨⟨by omega, rfl⟩, ?_, ?_⟩ ?_
   · exact hF.restrict ⟨(by kernel_rfl), (by kernel_rfl), (congrArg some (by first | rfl | exact congrArg (Value.int _) (by omega) | simp)), (by kernel_rfl), (by kernel_rfl), (congrArg some (by first | rfl | exact congrArg (Value.int _) (by omega) | simp)), trivial⟩
   · exact hO.sub (.cons_cons _ (.cons_cons _ (List.nil_sublist _)))
   clear hF hO; rintro ⟨i, q, qc, acc⟩ a Wl1 ⟨hI, hF, hO⟩ KhK_1 hK_1
   try dsimp only at hI
   refine wp_seq_k fun K9 hK9 => ?_
   refine wp_region_lit ?_
   refine Vp hF (.bool (decide ((i : Int) < 4))) ?_; clear hF; intro a hF
   refine L_nil ?_
   refine hK9 _ _ ?_
   refine wp_seq_k fun K10 hK10 => ?_
   by_cases q3 : (i : Int) < 4
   ·
    replace hF := hF.know (d := 20) (v' := .bool true) (by kernel_rfl) (congrArg Value.bool (decide_eq_true q3))
    refine cond_t hF (by kernel_rfl) (by kernel_rfl) ?_
    refine wp_skip ?_
    refine hK10 _ _ ?_
    refine wp_seq_k fun K11 hK11 => ?_
    refine wp_block ?_
    refine wp_seq_k fun K12 hK12 => ?_
    refine wp_region_lit ?_
    refine Vr hF (.pointer (some ⟨b1, 1 + i * 1, none⟩)) (x_idxAddr (b := b1) (off := 1) (len := 4) (cap := 16) (elem := 5) (k := 1) (kd := .i64) (i := i) rfl (by kernel_rfl) (by kernel_rfl) (by kernel_rfl) (by kernel_rfl) (by omega)) ?_; clear hF; intro a hF
    refine Vr hF (.int .u8 (((x.at i).toNat : Int))) (x_load (p := .pointer (some ⟨b1, 1 + i * 1, none⟩)) rfl (by kernel_rfl) (run_load_ip hO (List.mem_cons_of_mem _ List.mem_cons_self) (by kernel_rfl) (by (first | omega | (simp only [List.length_set, List.length_take, List.length_drop, List.length_append, List.length_cons, List.length_nil]; done) | (simp only [List.length_set, List.length_take, List.length_drop, List.length_append, List.length_cons, List.length_nil]; omega) | (simp only [List.length_set, List.length_take, List.length_drop, List.length_append, List.length_cons, List.length_nil] at *; omega))))) ?_; clear hF; intro a hF
    refine Vp hF (.int .u8 (((x.at i).toNat : Int))) ?_; clear hF; intro a hF
    refine L_nil ?_
    refine hK12 _ _ ?_
    refine wp_region_lit ?_
    refine Vp hF (.slice q acc.length qc) ?_; clear hF; intro a hF
    refine Vp hF (.int .u8 (((x.at i).toNat : Int))) ?_; clear hF; intro a hF
    refine Vr hF (.int .i64 (((x.at i).toNat : Int))) (x_int (x := IntKind.i64.wrap (((x.at i).toNat : Int))) (i64In (by have := UInt8.toNat_lt (x.at i); omega) (by have := UInt8.toNat_lt (x.at i); omega)) (by kernel_rfl)) ?_; clear hF; intro a hF
    refine Lc hF (itoa_ret ((x.at i).toNat : Int) Wl1 (hG.own hO) (by (first | omega | (have hq := UInt8.toNat_lt (x.at i); omega) | (have hal := congrArg List.length hI.2; (try simp only [quads, List.length_map, List.length_take, Ip.bytes_len] at hal); (try simp only [maxLen] at *); omega) | (have t1 := txtJ_len (atN x) 0 (gapF x - 0); have t2 := txtJ_len (atN x) (gapF x + gapM x) (8 - (gapF x + gapM x)); (try simp only [ByteArray.size_append]); (try simp only [ByteArray.size, List.size_toArray, List.length_cons, List.length_nil]); omega))) (by (first | omega | (have hq := UInt8.toNat_lt (x.at i); omega) | (have hal := congrArg List.length hI.2; (try simp only [quads, List.length_map, List.length_take, Ip.bytes_len] at hal); (try simp only [maxLen] at *); omega) | (have t1 := txtJ_len (atN x) 0 (gapF x - 0); have t2 := txtJ_len (atN x) (gapF x + gapM x) (8 - (gapF x + gapM x)); (try simp only [ByteArray.size_append]); (try simp only [ByteArray.size, List.size_toArray, List.length_cons, List.length_nil]); omega)))) ?_
    clear hF; rintro _ W3 a ⟨rfl, hk⟩ hF
    replace hO := hO.call0 hk; clear hk
    refine L_new hF hO (by kernel_rfl) (by kernel_rfl) (vf := fun b => .slice (some ⟨b, 0, none⟩) 1 1) (ob := .cells #[.string (⟨(Lib.itoa ((x.at i).toNat : Int)).toArray⟩ : ByteArray)] 9) (by kernel_rfl) (by kernel_rfl) ?_
    clear hF hO; intro b2 W4 a hO hF
    obtain ⟨p1, cap1, W5, hap, hO1, -⟩ := run_append_row (P := Tryz.prog) (ty := 98) (t := 98) (z := .string (⟨#[]⟩ : ByteArray)) (k := 1) (bytes := 16) (q := some ⟨b2, 0, none⟩) (ys := ([(⟨(Lib.itoa ((x.at i).toNat : Int)).toArray⟩ : ByteArray)] : List ByteArray)) (cq := 1) hO (.tail (.head _)) (by kernel_rfl) (by kernel_rfl) (by kernel_rfl) (by decide) (fun _ => rfl) (fun _ => rfl) (SlAt.blk hO List.mem_cons_self (by kernel_rfl)) (by (try simp only [List.length_append, List.length_take, List.length_drop, List.length_cons, List.length_nil, maxLen]); (first | omega | (have hq := UInt8.toNat_lt (x.at i); omega) | (have hal := congrArg List.length hI.2; (try simp only [quads, List.length_map, List.length_take, Ip.bytes_len] at hal); (try simp only [maxLen] at *); omega) | (have t1 := txtJ_len (atN x) 0 (gapF x - 0); have t2 := txtJ_len (atN x) (gapF x + gapM x) (8 - (gapF x + gapM x)); (try simp only [ByteArray.size_append]); (try simp only [ByteArray.size, List.size_toArray, List.length_cons, List.length_nil]); omega))) (by (try simp only [List.length_append, List.length_take, List.length_drop, List.length_cons, List.length_nil, maxLen]); (first | omega | (have hq := UInt8.toNat_lt (x.at i); omega) | (have hal := congrArg List.length hI.2; (try simp only [quads, List.length_map, List.length_take, Ip.bytes_len] at hal); (try simp only [maxLen] at *); omega) | (have t1 := txtJ_len (atN x) 0 (gapF x - 0); have t2 := txtJ_len (atN x) (gapF x + gapM x) (8 - (gapF x + gapM x)); (try simp only [ByteArray.size_append]); (try simp only [ByteArray.size, List.size_toArray, List.length_cons, List.length_nil]); omega)))
    refine L_valW hF (by kernel_rfl) (by kernel_rfl) (x_app hap rfl (by kernel_rfl) (by kernel_rfl) rfl) (by kernel_rfl) ?_
    clear hap hF; intro a hF; replace hO := hO1; clear hO1
    refine Vp hF (.slice p1 ((acc ++ ([(⟨(Lib.itoa ((x.at i).toNat : Int)).toArray⟩ : ByteArray)] : List ByteArray)).length) cap1) ?_; clear hF; intro a hF
    refine L_nil ?_
    refine block_normal ?_
    refine hK11 _ _ ?_
    refine wp_region_lit ?_
    refine Vr hF (.int .i64 ((i : Int) + 1)) (x_int (x := IntKind.i64.wrap ((i : Int) + 1)) (i64In (by omega) (by omega)) (by kernel_rfl)) ?_; clear hF; intro a hF
    refine Vp hF (.int .i64 ((i : Int) + 1)) ?_; clear hF; intro a hF
    refine L_nil ?_
    refine hK_1 ((i + 1, p1, cap1, acc ++ ([(⟨(Lib.itoa ((x.at i).toNat : Int)).toArray⟩ : ByteArray)] : List ByteArray))) _ _ (by first | omega | (dsimp only; omega)) ⟨⟨by omega, by rw [hI.2]; exact quads_next (by omega)⟩, ?_, ?_⟩
    · exact hF.restrict ⟨(by kernel_rfl), (by kernel_rfl), (congrArg some (by first | rfl | exact congrArg (Value.int _) (by omega) | simp)), (by kernel_rfl), (by kernel_rfl), (congrArg some (by first | rfl | exact congrArg (Value.int _) (by omega) | simp)), trivial⟩
    · exact hO.sub (.cons_cons _ (.cons _ (.cons_cons _ (List.nil_sublist _))))
   ·
    replace hF := hF.know (d := 20) (v' := .bool false) (by kernel_rfl) (congrArg Value.bool (decide_eq_false q3))
    refine cond_f hF (by kernel_rfl) (by kernel_rfl) ?_
    refine wp_exit ?_
    refine then_exit ?_
    refine then_exit ?_
    refine inBlock_hit ?_
    refine hK7 _ _ ?_
    refine wp_seq_k fun K13 hK13 => ?_
    refine wp_region_lit ?_
    refine Vp hF (.slice q acc.length qc) ?_; clear hF; intro a hF
    refine Lc hF (join_ret (q) qc (acc) 46 Wl1 (hO.row List.mem_cons_self) (hO.rowCap List.mem_cons_self) (by obtain rfl : i = 4 := (by omega); rw [hI.2, quads_join]; have := fmtFour_len x; omega) (by have hal := congrArg List.length hI.2; simp only [quads, List.length_map, List.length_take, Ip.bytes_len] at hal; omega)) ?_
    clear hF; rintro _ W6 a ⟨rfl, hk⟩ hF
    replace hO := hO.call0 hk; clear hk
    refine Vp hF (.string (⟨(Lib.join (acc.map (·.data.toList)) [46]).toArray⟩ : ByteArray)) ?_; clear hF; intro a hF
    refine L_nil ?_
    refine hK13 _ _ ?_
    refine wp_ret ?_
    refine block_ret ?_
    refine then_ret ?_
    refine ret1 hF (v := .string (⟨(Lib.join (acc.map (·.data.toList)) [46]).toArray⟩ : ByteArray)) rfl (resT (by kernel_rfl)) (by refine ⟨?_, hO.nil⟩; first | (rw [fmtS_no (by assumption)]; done) | (obtain rfl : i = 4 := (by omega); rw [hI.2, quads_join, fmtS_four (by assumption) (by assumption)]; done) | (rw [fmtS_six (by assumption) (by assumption), fmtSix_no (by omega)]; done) | (rw [fmtS_six (by assumption) (by assumption), fmtSix_gap (by omega), ← bcat, ← bcat]; rfl)) .ret (.inl rfl)
  ·
   replace hF := hF.know (d := 12) (v' := .bool false) (by kernel_rfl) (congrArg Value.bool (notF q2))
   refine cond_f hF (by kernel_rfl) (by kernel_rfl) ?_
   refine wp_skip ?_
   refine block_normal ?_
   refine hK2 _ _ ?_
   refine wp_seq_k fun K14 hK14 => ?_
   refine wp_region_lit ?_
   refine Vr hF (ipV x) (x_load (p := .pointer (some ⟨b1, 0, none⟩)) rfl (by kernel_rfl) (run_loadA (k := 17) (by kernel_rfl) (by kernel_rfl) (hO.blk List.mem_cons_self) (by kernel_rfl) (by kernel_rfl))) ?_; clear hF; intro a hF
   refine Lc hF ((addr_noughts x W2).mono fun v W' h => (⟨by rw [h.1, (nz_gap x).1, (nz_gap x).2], h.2⟩ : v = .tuple #[.int .i64 (gapF x : Int), .int .i64 (gapM x : Int)] ∧ Own W2 noX [] W')) ?_
   clear hF; rintro _ W7 a ⟨rfl, hk⟩ hF
   replace hO := hO.call0 hk; clear hk
   refine Vp hF (.tuple #[.int .i64 ((gapF x : Int)), .int .i64 ((gapM x : Int))]) ?_; clear hF; intro a hF
   refine Vp hF (.int .i64 ((gapF x : Int))) ?_; clear hF; intro a hF
   refine Vp hF (.int .i64 ((gapM x : Int))) ?_; clear hF; intro a hF
   refine Vp hF (.int .i64 ((gapF x : Int))) ?_; clear hF; intro a hF
   refine Vp hF (.int .i64 ((gapM x : Int))) ?_; clear hF; intro a hF
   refine L_nil ?_
   refine hK14 _ _ ?_
   refine wp_seq_k fun K15 hK15 => ?_
   refine wp_seq_k fun K16 hK16 => ?_
   refine wp_region_lit ?_
   refine Vp hF (.int .i64 ((gapM x : Int))) ?_; clear hF; intro a hF
   refine Vp hF (.bool (decide ((gapM x : Int) < 2))) ?_; clear hF; intro a hF
   refine L_nil ?_
   refine hK16 _ _ ?_
   by_cases q4 : (gapM x : Int) < 2
   ·
    replace hF := hF.know (d := 38) (v' := .bool true) (by kernel_rfl) (congrArg Value.bool (decide_eq_true q4))
    refine cond_t hF (by kernel_rfl) (by kernel_rfl) ?_
    refine wp_seq_k fun K17 hK17 => ?_
    refine wp_region_lit ?_
    refine Vr hF (ipV x) (x_load (p := .pointer (some ⟨b1, 0, none⟩)) rfl (by kernel_rfl) (run_loadA (k := 17) (by kernel_rfl) (by kernel_rfl) (hO.blk List.mem_cons_self) (by kernel_rfl) (by kernel_rfl))) ?_; clear hF; intro a hF
    refine Lc hF (addr_texts x 0 8 W7 (hG.own hO) (by omega) (by have := (gap x).1; omega)) ?_
    clear hF; rintro _ W8 a ⟨rfl, hk⟩ hF
    replace hO := hO.call0 hk; clear hk
    refine Vp hF (.string (⟨(txtJ (atN x) 0 (8 - 0)).toArray⟩ : ByteArray)) ?_; clear hF; intro a hF
    refine L_nil ?_
    refine hK17 _ _ ?_
    refine wp_ret ?_
    refine then_ret ?_
    refine ret1 hF (v := .string (⟨(txtJ (atN x) 0 (8 - 0)).toArray⟩ : ByteArray)) rfl (resT (by kernel_rfl)) (by refine ⟨?_, hO.nil⟩; first | (rw [fmtS_no (by assumption)]; done) | (obtain rfl : i = 4 := (by omega); rw [hI.2, quads_join, fmtS_four (by assumption) (by assumption)]; done) | (rw [fmtS_six (by assumption) (by assumption), fmtSix_no (by omega)]; done) | (rw [fmtS_six (by assumption) (by assumption), fmtSix_gap (by omega), ← bcat, ← bcat]; rfl)) .ret (.inl rfl)
   ·
    replace hF := hF.know (d := 38) (v' := .bool false) (by kernel_rfl) (congrArg Value.bool (decide_eq_false q4))
    refine cond_f hF (by kernel_rfl) (by kernel_rfl) ?_
    refine wp_skip ?_
    refine hK15 _ _ ?_
    refine wp_seq_k fun K18 hK18 => ?_
    refine A_start (fun Wx => Own W noX [.blk b1 (.cells (ipL x).toArray 33 (0, 0))] Wx) (by kernel_rfl) ?_
    replace hO := hO.drewN 1
    generalize hWd : ({ W7 with drawn := W7.drawn + 1 } : World) = W7_d at hO ⊢; clear hWd
    have hS := hO.sub (.cons_cons _ (List.nil_sublist _))
    refine Tk 0 rfl hF (ipV x) (fun Wx hO => x_load (p := .pointer (some ⟨b1, 0, none⟩)) rfl (by kernel_rfl) (run_loadA (k := 17) (by kernel_rfl) (by kernel_rfl) (hO.blk List.mem_cons_self) (by kernel_rfl) (by kernel_rfl))) hS ?_; clear hF; intro a hF
    refine Tk 1 rfl hF (.int .i64 ((gapF x : Int))) (fun Wx _ => by kernel_rfl) hS ?_; clear hF; intro a hF
    refine Tk 4 rfl hF (ipV x) (fun Wx hO => x_load (p := .pointer (some ⟨b1, 0, none⟩)) rfl (by kernel_rfl) (run_loadA (k := 17) (by kernel_rfl) (by kernel_rfl) (hO.blk List.mem_cons_self) (by kernel_rfl) (by kernel_rfl))) hS ?_; clear hF; intro a hF
    refine Tk 5 rfl hF (.int .i64 ((gapF x : Int))) (fun Wx _ => by kernel_rfl) hS ?_; clear hF; intro a hF
    refine Tk 6 rfl hF (.int .i64 ((gapM x : Int))) (fun Wx _ => by kernel_rfl) hS ?_; clear hF; intro a hF
    refine Tk 7 rfl hF (.int .i64 ((gapF x : Int) + (gapM x : Int))) (fun Wx _ => (x_int (x := IntKind.i64.wrap ((gapF x : Int) + (gapM x : Int))) (i64In (by omega) (by omega)) (by kernel_rfl))) hS ?_; clear hF; intro a hF
    refine A_one (i := 2) (listed' := #[true, true, true, false, true, true, true, true, false, false, false]) (by kernel_rfl) rfl (by kernel_rfl) ?_
    refine OpK.lc hF (addr_texts x 0 (gapF x) W7_d (hG.own hO) (by omega) (by have := (gap x).1; omega)) ?_
    clear hF; rintro _ W9 a ⟨rfl, hk⟩ hF
    replace hO := hO.call0 hk; clear hk
    refine ⟨hO.sub (.cons_cons _ (List.nil_sublist _)), ?_⟩
    have hS := hO.sub (.cons_cons _ (List.nil_sublist _))
    refine Tk 3 rfl hF (.string ((⟨(txtJ (atN x) 0 ((gapF x) - 0)).toArray⟩ : ByteArray) ++ (⟨#[58, 58]⟩ : ByteArray))) (fun Wx _ => (x_cat (s := (⟨(txtJ (atN x) 0 ((gapF x) - 0)).toArray⟩ : ByteArray)) (t := (⟨#[58, 58]⟩ : ByteArray)) rfl (by kernel_rfl) (by kernel_rfl) (by (first | omega | (have hq := UInt8.toNat_lt (x.at i); omega) | (have hal := congrArg List.length hI.2; (try simp only [quads, List.length_map, List.length_take, Ip.bytes_len] at hal); (try simp only [maxLen] at *); omega) | (have t1 := txtJ_len (atN x) 0 (gapF x - 0); have t2 := txtJ_len (atN x) (gapF x + gapM x) (8 - (gapF x + gapM x)); (try simp only [ByteArray.size_append]); (try simp only [ByteArray.size, List.size_toArray, List.length_cons, List.length_nil]); omega))))) hS ?_; clear hF; intro a hF
    refine A_one (i := 8) (listed' := #[true, true, true, true, true, true, true, true, true, false, false]) (by kernel_rfl) rfl (by kernel_rfl) ?_
    refine OpK.lc hF (addr_texts x (gapF x + gapM x) 8 W9 (hG.own hO) (by omega) (by have := (gap x).1; omega)) ?_
    clear hF; rintro _ W10 a ⟨rfl, hk⟩ hF
    replace hO := hO.call0 hk; clear hk
    refine ⟨hO.sub (.cons_cons _ (List.nil_sublist _)), ?_⟩
    have hS := hO.sub (.cons_cons _ (List.nil_sublist _))
    refine Tk 9 rfl hF (.string (((⟨(txtJ (atN x) 0 ((gapF x) - 0)).toArray⟩ : ByteArray) ++ (⟨#[58, 58]⟩ : ByteArray)) ++ (⟨(txtJ (atN x) (gapF x + gapM x) (8 - (gapF x + gapM x))).toArray⟩ : ByteArray))) (fun Wx _ => (x_cat (s := (⟨(txtJ (atN x) 0 ((gapF x) - 0)).toArray⟩ : ByteArray) ++ (⟨#[58, 58]⟩ : ByteArray)) (t := (⟨(txtJ (atN x) (gapF x + gapM x) (8 - (gapF x + gapM x))).toArray⟩ : ByteArray)) rfl (by kernel_rfl) (by kernel_rfl) (by (first | omega | (have hq := UInt8.toNat_lt (x.at i); omega) | (have hal := congrArg List.length hI.2; (try simp only [quads, List.length_map, List.length_take, Ip.bytes_len] at hal); (try simp only [maxLen] at *); omega) | (have t1 := txtJ_len (atN x) 0 (gapF x - 0); have t2 := txtJ_len (atN x) (gapF x + gapM x) (8 - (gapF x + gapM x)); (try simp only [ByteArray.size_append]); (try simp only [ByteArray.size, List.size_toArray, List.length_cons, List.length_nil]); omega))))) hS ?_; clear hF; intro a hF
    refine Tk 10 rfl hF (.string (((⟨(txtJ (atN x) 0 ((gapF x) - 0)).toArray⟩ : ByteArray) ++ (⟨#[58, 58]⟩ : ByteArray)) ++ (⟨(txtJ (atN x) (gapF x + gapM x) (8 - (gapF x + gapM x))).toArray⟩ : ByteArray))) (fun Wx _ => by kernel_rfl) hS ?_; clear hF; intro a hF
    refine A_done (by kernel_rfl) ?_
    refine hK18 _ _ ?_
    refine wp_ret ?_
    refine ret1 hF (v := .string (((⟨(txtJ (atN x) 0 ((gapF x) - 0)).toArray⟩ : ByteArray) ++ (⟨#[58, 58]⟩ : ByteArray)) ++ (⟨(txtJ (atN x) (gapF x + gapM x) (8 - (gapF x + gapM x))).toArray⟩ : ByteArray))) rfl (resT (by kernel_rfl)) (by refine ⟨?_, hO.nil⟩; first | (rw [fmtS_no (by assumption)]; done) | (obtain rfl : i = 4 := (by omega); rw [hI.2, quads_join, fmtS_four (by assumption) (by assumption)]; done) | (rw [fmtS_six (by assumption) (by assumption), fmtSix_no (by omega)]; done) | (rw [fmtS_six (by assumption) (by assumption), fmtSix_gap (by omega), ← bcat, ← bcat]; rfl)) .ret (.inl rfl)

set_option maxRecDepth 20000 in
theorem ref02_Right (x : Ip) (W : World) : Ret Tryz.prog 25 #[ipV x] W fun v W' => v = .bool (rightIp x) ∧ Own W noX [] W' := by
 refine enter Tryz.func25 rfl (n := 18) rfl (by kernel_rfl) (E0 := [(0, ipV x)]) (by kernel_rfl) ?_
 intro a hF; have hO := Own.start W noX
 refine wp_seq_k fun K1 hK1 => ?_
 refine wp_region_lit ?_
 refine L_new hF hO (by kernel_rfl) (by kernel_rfl) (vf := fun b => .pointer (some ⟨b, 0, none⟩)) (ob := .cells #[.bool x.six, .int .u8 ((x.b0.toNat : Int)), .int .u8 ((x.b1.toNat : Int)), .int .u8 ((x.b2.toNat : Int)), .int .u8 ((x.b3.toNat : Int)), .int .u8 ((x.b4.toNat : Int)), .int .u8 ((x.b5.toNat : Int)), .int .u8 ((x.b6.toNat : Int)), .int .u8 ((x.b7.toNat : Int)), .int .u8 ((x.b8.toNat : Int)), .int .u8 ((x.b9.toNat : Int)), .int .u8 ((x.b10.toNat : Int)), .int .u8 ((x.b11.toNat : Int)), .int .u8 ((x.b12.toNat : Int)), .int .u8 ((x.b13.toNat : Int)), .int .u8 ((x.b14.toNat : Int)), .int .u8 ((x.b15.toNat : Int))] 33) (by kernel_rfl) (by kernel_rfl) ?_
 clear hF hO; intro b1 W1 a hO hF
 replace hO := hO.reblk (cs := #[.bool x.six, .int .u8 ((x.b0.toNat : Int)), .int .u8 ((x.b1.toNat : Int)), .int .u8 ((x.b2.toNat : Int)), .int .u8 ((x.b3.toNat : Int)), .int .u8 ((x.b4.toNat : Int)), .int .u8 ((x.b5.toNat : Int)), .int .u8 ((x.b6.toNat : Int)), .int .u8 ((x.b7.toNat : Int)), .int .u8 ((x.b8.toNat : Int)), .int .u8 ((x.b9.toNat : Int)), .int .u8 ((x.b10.toNat : Int)), .int .u8 ((x.b11.toNat : Int)), .int .u8 ((x.b12.toNat : Int)), .int .u8 ((x.b13.toNat : Int)), .int .u8 ((x.b14.toNat : Int)), .int .u8 ((x.b15.toNat : Int))]) (cs' := (ipL x).toArray) (by kernel_rfl) (.head _)
 refine Vp hF (.bool false) ?_; clear hF; intro a hF
 refine L_nil ?_
 refine hK1 _ _ ?_
 refine wp_seq_k fun K2 hK2 => ?_
 refine wp_seq_k fun K3 hK3 => ?_
 refine wp_region_lit ?_
 refine Vp hF (.int .i64 4) ?_; clear hF; intro a hF
 refine L_nil ?_
 refine hK3 _ _ ?_
 refine wp_block ?_
 refine loopX (τ := Nat) (fun (i : Nat) a Wx => (4 ≤ i ∧ i ≤ 16 ∧ ∀ j, 4 ≤ j → j < i → x.six = false → x.at j = 0) ∧ Fr 18 a [(1, .pointer (some ⟨b1, 0, none⟩)), (3, .int .i64 ((i : Int)))] ∧ Own W noX [.blk b1 (.cells (ipL x).toArray 33 (0, 0))] Wx) (fun (i : Nat) => 16 - i) (4) ⟨⟨by omega, by omega, fun j h1 h2 => by omega⟩, ?_, ?_⟩ ?_
 · exact hF.restrict ⟨(by kernel_rfl), (congrArg some (by first | rfl | exact congrArg (Value.int _) (by omega) | simp)), trivial⟩
 · exact hO.sub (.cons_cons _ (List.nil_sublist _))
 clear hF hO; rintro i a Wl1 ⟨hI, hF, hO⟩ KhK_1 hK_1
 try dsimp only at hI
 refine wp_seq_k fun K4 hK4 => ?_
 refine wp_seq_k fun K5 hK5 => ?_
 refine wp_region_lit ?_
 refine Vp hF (.int .i64 ((i : Int))) ?_; clear hF; intro a hF
 refine Vp hF (.bool (decide ((i : Int) < 16))) ?_; clear hF; intro a hF
 refine L_nil ?_
 refine hK5 _ _ ?_
 by_cases q1 : (i : Int) < 16
 ·
  replace hF := hF.know (d := 5) (v' := .bool true) (by kernel_rfl) (congrArg Value.bool (decide_eq_true q1))
  refine cond_t hF (by kernel_rfl) (by kernel_rfl) ?_
  refine wp_skip ?_
  refine hK4 _ _ ?_
  refine wp_seq_k fun K6 hK6 => ?_
  refine wp_block ?_
  refine wp_seq_k fun K7 hK7 => ?_
  refine wp_region_lit ?_
  refine Vp hF (.pointer (some ⟨b1, 0, none⟩)) ?_; clear hF; intro a hF
  refine Vr hF (.bool x.six) (x_load (p := .pointer (some ⟨b1, 0, none⟩)) rfl (by kernel_rfl) (run_load1 (by kernel_rfl) ((hO.cell List.mem_cons_self).trans (by kernel_rfl)))) ?_; clear hF; intro a hF
  refine Vp hF (.bool (!x.six)) ?_; clear hF; intro a hF
  refine Vp hF (.bool (!x.six)) ?_; clear hF; intro a hF
  cases q2 : (x.six : Bool)
  ·
   replace hF := hF.know (d := 11) (v' := .bool true) (by kernel_rfl) (congrArg Value.bool (notT q2))
   refine Vp hF (.int .i64 ((i : Int))) ?_; clear hF; intro a hF
   refine Vp hF (.pointer (some ⟨b1, 1, none⟩)) ?_; clear hF; intro a hF
   refine Vr hF (.pointer (some ⟨b1, 1 + i * 1, none⟩)) (x_idxPtr (b := b1) (off := 1) (elem := 5) (len := 16) (kd := .i64) (k := 1) (i := (i : Int)) rfl (by kernel_rfl) (by kernel_rfl) (by kernel_rfl) (by kernel_rfl) (by omega) (by omega)) ?_; clear hF; intro a hF
   refine Vr hF (.int .u8 (((x.at i).toNat : Int))) (x_load (p := .pointer (some ⟨b1, 1 + i * 1, none⟩)) rfl (by kernel_rfl) (run_load_ip hO List.mem_cons_self (by kernel_rfl) (by (first | omega | (simp only [List.length_set, List.length_take, List.length_drop, List.length_append, List.length_cons, List.length_nil]; done) | (simp only [List.length_set, List.length_take, List.length_drop, List.length_append, List.length_cons, List.length_nil]; omega) | (simp only [List.length_set, List.length_take, List.length_drop, List.length_append, List.length_cons, List.length_nil] at *; omega))))) ?_; clear hF; intro a hF
   refine Vp hF (.bool (!(((x.at i).toNat : Int) == 0))) ?_; clear hF; intro a hF
   refine Vp hF (.bool (!(((x.at i).toNat : Int) == 0))) ?_; clear hF; intro a hF
   refine L_nil ?_
   refine hK7 _ _ ?_
   by_cases q3 : ((x.at i).toNat : Int) = 0
   ·
    replace hF := hF.know (d := 17) (v' := .bool false) (by kernel_rfl) (congrArg Value.bool (neF (not_not_intro q3)))
    refine cond_f hF (by kernel_rfl) (by kernel_rfl) ?_
    refine wp_skip ?_
    refine block_normal ?_
    refine hK6 _ _ ?_
    refine wp_region_lit ?_
    refine Vp hF (.int .i64 ((i : Int))) ?_; clear hF; intro a hF
    refine Vr hF (.int .i64 ((i : Int) + 1)) (x_int (x := IntKind.i64.wrap ((i : Int) + 1)) (i64In (by omega) (by omega)) (by kernel_rfl)) ?_; clear hF; intro a hF
    refine Vp hF (.int .i64 ((i : Int) + 1)) ?_; clear hF; intro a hF
    refine L_nil ?_
    refine hK_1 (i + 1) _ _ (by first | omega | (dsimp only; omega)) ⟨⟨by omega, by omega, fun j h1 h2 h6 => by rcases Nat.lt_or_ge j i with h | h; exact hI.2.2 j h1 h h6; obtain rfl : j = i := (by omega); first | (exfalso; simp only [h6] at *; done) | (exfalso; simp_all; done) | exact UInt8.toNat_inj.1 (by have : ((x.at j).toNat : Int) = 0 := (by omega); show (x.at j).toNat = 0; omega)⟩, ?_, ?_⟩
    · exact hF.restrict ⟨(by kernel_rfl), (congrArg some (by first | rfl | exact congrArg (Value.int _) (by omega) | simp)), trivial⟩
    · exact hO.sub (.cons_cons _ (List.nil_sublist _))
   ·
    replace hF := hF.know (d := 17) (v' := .bool true) (by kernel_rfl) (congrArg Value.bool (neT q3))
    refine cond_t hF (by kernel_rfl) (by kernel_rfl) ?_
    refine wp_seq_k fun K8 hK8 => ?_
    refine wp_region_lit ?_
    refine Vp hF (.bool false) ?_; clear hF; intro a hF
    refine L_nil ?_
    refine hK8 _ _ ?_
    refine wp_ret ?_
    refine block_ret ?_
    refine then_ret ?_
    refine then_ret ?_
    refine block_ret ?_
    refine then_ret ?_
    refine ret1 hF (v := .bool false) rfl (resT (by kernel_rfl)) (by refine ⟨?_, hO.nil⟩; first | exact congrArg Value.bool (right_bad (i := i) (by assumption) (by omega) (by omega) (by assumption)).symm | exact congrArg Value.bool (right_good (fun j h1 h2 => hI.2.2 j h1 (by omega))).symm) .ret (.inl rfl)
  ·
   replace hF := hF.know (d := 11) (v' := .bool false) (by kernel_rfl) (congrArg Value.bool (notF q2))
   refine Lo hF ?_; clear hF; intro a hF
   refine Lo hF ?_; clear hF; intro a hF
   refine Lo hF ?_; clear hF; intro a hF
   refine Lo hF ?_; clear hF; intro a hF
   refine Lo hF ?_; clear hF; intro a hF
   refine Vp hF (.bool false) ?_; clear hF; intro a hF
   refine L_nil ?_
   refine hK7 _ _ ?_
   refine cond_f hF (by kernel_rfl) (by kernel_rfl) ?_
   refine wp_skip ?_
   refine block_normal ?_
   refine hK6 _ _ ?_
   refine wp_region_lit ?_
   refine Vp hF (.int .i64 ((i : Int))) ?_; clear hF; intro a hF
   refine Vr hF (.int .i64 ((i : Int) + 1)) (x_int (x := IntKind.i64.wrap ((i : Int) + 1)) (i64In (by omega) (by omega)) (by kernel_rfl)) ?_; clear hF; intro a hF
   refine Vp hF (.int .i64 ((i : Int) + 1)) ?_; clear hF; intro a hF
   refine L_nil ?_
   refine hK_1 (i + 1) _ _ (by first | omega | (dsimp only; omega)) ⟨⟨by omega, by omega, fun j h1 h2 h6 => by rcases Nat.lt_or_ge j i with h | h; exact hI.2.2 j h1 h h6; obtain rfl : j = i := (by omega); first | (exfalso; simp only [h6] at *; done) | (exfalso; simp_all; done) | exact UInt8.toNat_inj.1 (by have : ((x.at j).toNat : Int) = 0 := (by omega); show (x.at j).toNat = 0; omega)⟩, ?_, ?_⟩
   · exact hF.restrict ⟨(by kernel_rfl), (congrArg some (by first | rfl | exact congrArg (Value.int _) (by omega) | simp)), trivial⟩
   · exact hO.sub (.cons_cons _ (List.nil_sublist _))
 ·
  replace hF := hF.know (d := 5) (v' := .bool false) (by kernel_rfl) (congrArg Value.bool (decide_eq_false q1))
  refine cond_f hF (by kernel_rfl) (by kernel_rfl) ?_
  refine wp_exit ?_
  refine then_exit ?_
  refine then_exit ?_
  refine inBlock_hit ?_
  refine hK2 _ _ ?_
  refine wp_seq_k fun K9 hK9 => ?_
  refine wp_region_lit ?_
  refine Vp hF (.bool true) ?_; clear hF; intro a hF
  refine L_nil ?_
  refine hK9 _ _ ?_
  refine wp_ret ?_
  refine ret1 hF (v := .bool true) rfl (resT (by kernel_rfl)) (by refine ⟨?_, hO.nil⟩; first | exact congrArg Value.bool (right_bad (i := i) (by assumption) (by omega) (by omega) (by assumption)).symm | exact congrArg Value.bool (right_good (fun j h1 h2 => hI.2.2 j h1 (by omega))).symm) .ret (.inl rfl)

end Go.Proofs.YthellfigmpjhlaaGreatDoor
