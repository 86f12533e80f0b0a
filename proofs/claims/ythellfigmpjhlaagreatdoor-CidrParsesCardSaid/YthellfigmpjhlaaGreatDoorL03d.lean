/- The law CidrParses, walked. -/
import Derived.Test.YthellfigmpjhlaaGreatDoorBack
import Derived.Test.YthellfigmpjhlaaGreatDoorCdpR
import Derived.Test.YthellfigmpjhlaaGreatDoorFmtR
import Derived.Test.YthellfigmpjhlaaGreatDoorC03
namespace Go.Proofs.YthellfigmpjhlaaGreatDoor
open Go Go.RowKit
set_option linter.unusedVariables false
set_option linter.unusedSimpArgs false
abbrev zPL03d : Array Value := #[.bool false, .int .u8 0, .int .u8 0, .int .u8 0, .int .u8 0, .int .u8 0, .int .u8 0, .int .u8 0, .int .u8 0, .int .u8 0, .int .u8 0, .int .u8 0, .int .u8 0, .int .u8 0, .int .u8 0, .int .u8 0, .int .u8 0, .int .i64 0]
set_option maxRecDepth 20000 in
theorem ref03_numeral (n : Nat) (W : World) (hn : n ≤ 999) : Ret Tryz.prog 107 #[.int .i64 ((n : Int))] W fun v W' => v = .string ⟨(Lib.decDigits n).toArray⟩ ∧ Own W noX [] W' := by
 have hsz : ((⟨#[48, 49, 50, 51, 52, 53, 54, 55, 56, 57]⟩ : ByteArray).size : Int) = 10 := rfl
 refine enter Tryz.func107 rfl (n := 39) rfl (by kernel_rfl) (E0 := [(0, .int .i64 ((n : Int)))]) (by kernel_rfl) ?_
 intro a hF; have hO := Own.start W noX
 refine wp_seq_k fun K1 hK1 => ?_
 refine wp_region_lit ?_
 refine Vp hF (.string (⟨#[]⟩ : ByteArray)) ?_; clear hF; intro a hF
 refine L_nil ?_
 refine hK1 _ _ ?_
 refine wp_seq_k fun K2 hK2 => ?_
 refine wp_region_lit ?_
 refine Vp hF (.string (⟨#[48, 49, 50, 51, 52, 53, 54, 55, 56, 57]⟩ : ByteArray)) ?_; clear hF; intro a hF
 refine L_nil ?_
 refine hK2 _ _ ?_
 refine wp_seq_k fun K3 hK3 => ?_
 refine wp_region_lit ?_
 refine Vp hF (.string (⟨#[48, 49, 50, 51, 52, 53, 54, 55, 56, 57]⟩ : ByteArray)) ?_; clear hF; intro a hF
 refine Vp hF (.int .i64 ((n : Int))) ?_; clear hF; intro a hF
 refine Vr hF (.int .i64 ((n : Int) % 10)) (x_int (x := Int.tmod (n : Int) 10) (rem_pos (by omega)) (by kernel_rfl)) ?_; clear hF; intro a hF
 refine Vp hF (.int .i64 ((n : Int))) ?_; clear hF; intro a hF
 refine Vr hF (.int .i64 ((n : Int) % 10)) (x_int (x := Int.tmod (n : Int) 10) (rem_pos (by omega)) (by kernel_rfl)) ?_; clear hF; intro a hF
 refine Vr hF (.int .i64 ((n : Int) % 10 + 1)) (x_int (x := IntKind.i64.wrap ((n : Int) % 10 + 1)) (i64In (by omega) (by omega)) (by kernel_rfl)) ?_; clear hF; intro a hF
 refine Vr hF (.string ((⟨#[48, 49, 50, 51, 52, 53, 54, 55, 56, 57]⟩ : ByteArray).extract (((n : Int) % 10).toNat) (((n : Int) % 10 + 1).toNat))) (x_slStrLH (s := (⟨#[48, 49, 50, 51, 52, 53, 54, 55, 56, 57]⟩ : ByteArray)) (k := .i64) (i := (n : Int) % 10) (k' := .i64) (j := (n : Int) % 10 + 1) rfl (by kernel_rfl) (by kernel_rfl) (by kernel_rfl) (by kernel_rfl) (by omega) (by omega) (by omega)) ?_; clear hF; intro a hF
 refine Vp hF (.string ((⟨#[48, 49, 50, 51, 52, 53, 54, 55, 56, 57]⟩ : ByteArray).extract (((n : Int) % 10).toNat) (((n : Int) % 10 + 1).toNat))) ?_; clear hF; intro a hF
 refine L_nil ?_
 refine hK3 _ _ ?_
 refine wp_seq_k fun K4 hK4 => ?_
 refine wp_seq_k fun K5 hK5 => ?_
 refine wp_region_lit ?_
 refine Vp hF (.int .i64 ((n : Int))) ?_; clear hF; intro a hF
 refine Vp hF (.bool (decide ((n : Int) > 9))) ?_; clear hF; intro a hF
 refine L_nil ?_
 refine hK5 _ _ ?_
 by_cases q1 : (n : Int) > 9
 ·
  replace hF := hF.know (d := 13) (v' := .bool true) (by kernel_rfl) (congrArg Value.bool (decide_eq_true q1))
  refine cond_t hF (by kernel_rfl) (by kernel_rfl) ?_
  refine wp_region_lit ?_
  refine Vp hF (.string (⟨#[48, 49, 50, 51, 52, 53, 54, 55, 56, 57]⟩ : ByteArray)) ?_; clear hF; intro a hF
  refine Vp hF (.int .i64 ((n : Int))) ?_; clear hF; intro a hF
  refine Vr hF (.int .i64 ((n : Int) / 10)) (x_int (x := IntKind.i64.wrap (Int.tdiv (n : Int) 10)) (i64Quo (by decide) (by omega) (by omega)) (by kernel_rfl)) ?_; clear hF; intro a hF
  refine Vr hF (.int .i64 (((n : Int) / 10) % 10)) (x_int (x := Int.tmod ((n : Int) / 10) 10) (rem_pos (by omega)) (by kernel_rfl)) ?_; clear hF; intro a hF
  refine Vp hF (.int .i64 ((n : Int))) ?_; clear hF; intro a hF
  refine Vr hF (.int .i64 ((n : Int) / 10)) (x_int (x := IntKind.i64.wrap (Int.tdiv (n : Int) 10)) (i64Quo (by decide) (by omega) (by omega)) (by kernel_rfl)) ?_; clear hF; intro a hF
  refine Vr hF (.int .i64 (((n : Int) / 10) % 10)) (x_int (x := Int.tmod ((n : Int) / 10) 10) (rem_pos (by omega)) (by kernel_rfl)) ?_; clear hF; intro a hF
  refine Vr hF (.int .i64 (((n : Int) / 10) % 10 + 1)) (x_int (x := IntKind.i64.wrap (((n : Int) / 10) % 10 + 1)) (i64In (by omega) (by omega)) (by kernel_rfl)) ?_; clear hF; intro a hF
  refine Vr hF (.string ((⟨#[48, 49, 50, 51, 52, 53, 54, 55, 56, 57]⟩ : ByteArray).extract ((((n : Int) / 10) % 10).toNat) ((((n : Int) / 10) % 10 + 1).toNat))) (x_slStrLH (s := (⟨#[48, 49, 50, 51, 52, 53, 54, 55, 56, 57]⟩ : ByteArray)) (k := .i64) (i := ((n : Int) / 10) % 10) (k' := .i64) (j := ((n : Int) / 10) % 10 + 1) rfl (by kernel_rfl) (by kernel_rfl) (by kernel_rfl) (by kernel_rfl) (by omega) (by omega) (by omega)) ?_; clear hF; intro a hF
  refine Vp hF (.string ((⟨#[48, 49, 50, 51, 52, 53, 54, 55, 56, 57]⟩ : ByteArray).extract (((n : Int) % 10).toNat) (((n : Int) % 10 + 1).toNat))) ?_; clear hF; intro a hF
  refine Vr hF (.string (((⟨#[48, 49, 50, 51, 52, 53, 54, 55, 56, 57]⟩ : ByteArray).extract ((((n : Int) / 10) % 10).toNat) ((((n : Int) / 10) % 10 + 1).toNat)) ++ ((⟨#[48, 49, 50, 51, 52, 53, 54, 55, 56, 57]⟩ : ByteArray).extract (((n : Int) % 10).toNat) (((n : Int) % 10 + 1).toNat)))) (x_cat (s := (⟨#[48, 49, 50, 51, 52, 53, 54, 55, 56, 57]⟩ : ByteArray).extract ((((n : Int) / 10) % 10).toNat) ((((n : Int) / 10) % 10 + 1).toNat)) (t := (⟨#[48, 49, 50, 51, 52, 53, 54, 55, 56, 57]⟩ : ByteArray).extract (((n : Int) % 10).toNat) (((n : Int) % 10 + 1).toNat)) rfl (by kernel_rfl) (by kernel_rfl) (by (first | omega | ((try simp only [ByteArray.size_append]); (try simp only [ByteArray.size_extract]); (try simp only [ByteArray.size, List.size_toArray] at *); omega)))) ?_; clear hF; intro a hF
  refine Vp hF (.string (((⟨#[48, 49, 50, 51, 52, 53, 54, 55, 56, 57]⟩ : ByteArray).extract ((((n : Int) / 10) % 10).toNat) ((((n : Int) / 10) % 10 + 1).toNat)) ++ ((⟨#[48, 49, 50, 51, 52, 53, 54, 55, 56, 57]⟩ : ByteArray).extract (((n : Int) % 10).toNat) (((n : Int) % 10 + 1).toNat)))) ?_; clear hF; intro a hF
  refine L_nil ?_
  refine hK4 _ _ ?_
  refine wp_seq_k fun K6 hK6 => ?_
  refine wp_seq_k fun K7 hK7 => ?_
  refine wp_region_lit ?_
  refine Vp hF (.int .i64 ((n : Int))) ?_; clear hF; intro a hF
  refine Vp hF (.bool (decide ((n : Int) > 99))) ?_; clear hF; intro a hF
  refine L_nil ?_
  refine hK7 _ _ ?_
  by_cases q2 : (n : Int) > 99
  ·
   replace hF := hF.know (d := 26) (v' := .bool true) (by kernel_rfl) (congrArg Value.bool (decide_eq_true q2))
   refine cond_t hF (by kernel_rfl) (by kernel_rfl) ?_
   refine wp_region_lit ?_
   refine Vp hF (.string (⟨#[48, 49, 50, 51, 52, 53, 54, 55, 56, 57]⟩ : ByteArray)) ?_; clear hF; intro a hF
   refine Vp hF (.int .i64 ((n : Int))) ?_; clear hF; intro a hF
   refine Vr hF (.int .i64 ((n : Int) / 100)) (x_int (x := IntKind.i64.wrap (Int.tdiv (n : Int) 100)) (i64Quo (by decide) (by omega) (by omega)) (by kernel_rfl)) ?_; clear hF; intro a hF
   refine Vr hF (.int .i64 (((n : Int) / 100) % 10)) (x_int (x := Int.tmod ((n : Int) / 100) 10) (rem_pos (by omega)) (by kernel_rfl)) ?_; clear hF; intro a hF
   refine Vp hF (.int .i64 ((n : Int))) ?_; clear hF; intro a hF
   refine Vr hF (.int .i64 ((n : Int) / 100)) (x_int (x := IntKind.i64.wrap (Int.tdiv (n : Int) 100)) (i64Quo (by decide) (by omega) (by omega)) (by kernel_rfl)) ?_; clear hF; intro a hF
   refine Vr hF (.int .i64 (((n : Int) / 100) % 10)) (x_int (x := Int.tmod ((n : Int) / 100) 10) (rem_pos (by omega)) (by kernel_rfl)) ?_; clear hF; intro a hF
   refine Vr hF (.int .i64 (((n : Int) / 100) % 10 + 1)) (x_int (x := IntKind.i64.wrap (((n : Int) / 100) % 10 + 1)) (i64In (by omega) (by omega)) (by kernel_rfl)) ?_; clear hF; intro a hF
   refine Vr hF (.string ((⟨#[48, 49, 50, 51, 52, 53, 54, 55, 56, 57]⟩ : ByteArray).extract ((((n : Int) / 100) % 10).toNat) ((((n : Int) / 100) % 10 + 1).toNat))) (x_slStrLH (s := (⟨#[48, 49, 50, 51, 52, 53, 54, 55, 56, 57]⟩ : ByteArray)) (k := .i64) (i := ((n : Int) / 100) % 10) (k' := .i64) (j := ((n : Int) / 100) % 10 + 1) rfl (by kernel_rfl) (by kernel_rfl) (by kernel_rfl) (by kernel_rfl) (by omega) (by omega) (by omega)) ?_; clear hF; intro a hF
   refine Vp hF (.string (((⟨#[48, 49, 50, 51, 52, 53, 54, 55, 56, 57]⟩ : ByteArray).extract ((((n : Int) / 10) % 10).toNat) ((((n : Int) / 10) % 10 + 1).toNat)) ++ ((⟨#[48, 49, 50, 51, 52, 53, 54, 55, 56, 57]⟩ : ByteArray).extract (((n : Int) % 10).toNat) (((n : Int) % 10 + 1).toNat)))) ?_; clear hF; intro a hF
   refine Vr hF (.string (((⟨#[48, 49, 50, 51, 52, 53, 54, 55, 56, 57]⟩ : ByteArray).extract ((((n : Int) / 100) % 10).toNat) ((((n : Int) / 100) % 10 + 1).toNat)) ++ (((⟨#[48, 49, 50, 51, 52, 53, 54, 55, 56, 57]⟩ : ByteArray).extract ((((n : Int) / 10) % 10).toNat) ((((n : Int) / 10) % 10 + 1).toNat)) ++ ((⟨#[48, 49, 50, 51, 52, 53, 54, 55, 56, 57]⟩ : ByteArray).extract (((n : Int) % 10).toNat) (((n : Int) % 10 + 1).toNat))))) (x_cat (s := (⟨#[48, 49, 50, 51, 52, 53, 54, 55, 56, 57]⟩ : ByteArray).extract ((((n : Int) / 100) % 10).toNat) ((((n : Int) / 100) % 10 + 1).toNat)) (t := ((⟨#[48, 49, 50, 51, 52, 53, 54, 55, 56, 57]⟩ : ByteArray).extract ((((n : Int) / 10) % 10).toNat) ((((n : Int) / 10) % 10 + 1).toNat)) ++ ((⟨#[48, 49, 50, 51, 52, 53, 54, 55, 56, 57]⟩ : ByteArray).extract (((n : Int) % 10).toNat) (((n : Int) % 10 + 1).toNat))) rfl (by kernel_rfl) (by kernel_rfl) (by (first | omega | ((try simp only [ByteArray.size_append]); (try simp only [ByteArray.size_extract]); (try simp only [ByteArray.size, List.size_toArray] at *); omega)))) ?_; clear hF; intro a hF
   refine Vp hF (.string (((⟨#[48, 49, 50, 51, 52, 53, 54, 55, 56, 57]⟩ : ByteArray).extract ((((n : Int) / 100) % 10).toNat) ((((n : Int) / 100) % 10 + 1).toNat)) ++ (((⟨#[48, 49, 50, 51, 52, 53, 54, 55, 56, 57]⟩ : ByteArray).extract ((((n : Int) / 10) % 10).toNat) ((((n : Int) / 10) % 10 + 1).toNat)) ++ ((⟨#[48, 49, 50, 51, 52, 53, 54, 55, 56, 57]⟩ : ByteArray).extract (((n : Int) % 10).toNat) (((n : Int) % 10 + 1).toNat))))) ?_; clear hF; intro a hF
   refine L_nil ?_
   refine hK6 _ _ ?_
   refine wp_seq_k fun K8 hK8 => ?_
   refine wp_region_lit ?_
   refine Vp hF (.string (((⟨#[48, 49, 50, 51, 52, 53, 54, 55, 56, 57]⟩ : ByteArray).extract ((((n : Int) / 100) % 10).toNat) ((((n : Int) / 100) % 10 + 1).toNat)) ++ (((⟨#[48, 49, 50, 51, 52, 53, 54, 55, 56, 57]⟩ : ByteArray).extract ((((n : Int) / 10) % 10).toNat) ((((n : Int) / 10) % 10 + 1).toNat)) ++ ((⟨#[48, 49, 50, 51, 52, 53, 54, 55, 56, 57]⟩ : ByteArray).extract (((n : Int) % 10).toNat) (((n : Int) % 10 + 1).toNat))))) ?_; clear hF; intro a hF
   refine Vp hF (.string (((⟨#[48, 49, 50, 51, 52, 53, 54, 55, 56, 57]⟩ : ByteArray).extract ((((n : Int) / 100) % 10).toNat) ((((n : Int) / 100) % 10 + 1).toNat)) ++ (((⟨#[48, 49, 50, 51, 52, 53, 54, 55, 56, 57]⟩ : ByteArray).extract ((((n : Int) / 10) % 10).toNat) ((((n : Int) / 10) % 10 + 1).toNat)) ++ ((⟨#[48, 49, 50, 51, 52, 53, 54, 55, 56, 57]⟩ : ByteArray).extract (((n : Int) % 10).toNat) (((n : Int) % 10 + 1).toNat))))) ?_; clear hF; intro a hF
   refine L_nil ?_
   refine hK8 _ _ ?_
   refine wp_ret ?_
   refine ret1 hF (v := .string (((⟨#[48, 49, 50, 51, 52, 53, 54, 55, 56, 57]⟩ : ByteArray).extract ((((n : Int) / 100) % 10).toNat) ((((n : Int) / 100) % 10 + 1).toNat)) ++ (((⟨#[48, 49, 50, 51, 52, 53, 54, 55, 56, 57]⟩ : ByteArray).extract ((((n : Int) / 10) % 10).toNat) ((((n : Int) / 10) % 10 + 1).toNat)) ++ ((⟨#[48, 49, 50, 51, 52, 53, 54, 55, 56, 57]⟩ : ByteArray).extract (((n : Int) % 10).toNat) (((n : Int) % 10 + 1).toNat))))) rfl (resT (by kernel_rfl)) (by refine ⟨?_, hO.nil⟩; exact congrArg Value.string (dec_3 (n := n) (by omega) (by omega))) .ret (.inl rfl)
  ·
   replace hF := hF.know (d := 26) (v' := .bool false) (by kernel_rfl) (congrArg Value.bool (decide_eq_false q2))
   refine cond_f hF (by kernel_rfl) (by kernel_rfl) ?_
   refine wp_skip ?_
   refine hK6 _ _ ?_
   refine wp_seq_k fun K9 hK9 => ?_
   refine wp_region_lit ?_
   refine Vp hF (.string (((⟨#[48, 49, 50, 51, 52, 53, 54, 55, 56, 57]⟩ : ByteArray).extract ((((n : Int) / 10) % 10).toNat) ((((n : Int) / 10) % 10 + 1).toNat)) ++ ((⟨#[48, 49, 50, 51, 52, 53, 54, 55, 56, 57]⟩ : ByteArray).extract (((n : Int) % 10).toNat) (((n : Int) % 10 + 1).toNat)))) ?_; clear hF; intro a hF
   refine Vp hF (.string (((⟨#[48, 49, 50, 51, 52, 53, 54, 55, 56, 57]⟩ : ByteArray).extract ((((n : Int) / 10) % 10).toNat) ((((n : Int) / 10) % 10 + 1).toNat)) ++ ((⟨#[48, 49, 50, 51, 52, 53, 54, 55, 56, 57]⟩ : ByteArray).extract (((n : Int) % 10).toNat) (((n : Int) % 10 + 1).toNat)))) ?_; clear hF; intro a hF
   refine L_nil ?_
   refine hK9 _ _ ?_
   refine wp_ret ?_
   refine ret1 hF (v := .string (((⟨#[48, 49, 50, 51, 52, 53, 54, 55, 56, 57]⟩ : ByteArray).extract ((((n : Int) / 10) % 10).toNat) ((((n : Int) / 10) % 10 + 1).toNat)) ++ ((⟨#[48, 49, 50, 51, 52, 53, 54, 55, 56, 57]⟩ : ByteArray).extract (((n : Int) % 10).toNat) (((n : Int) % 10 + 1).toNat)))) rfl (resT (by kernel_rfl)) (by refine ⟨?_, hO.nil⟩; exact congrArg Value.string (dec_2 (n := n) (by omega) (by omega))) .ret (.inl rfl)
 ·
  replace hF := hF.know (d := 13) (v' := .bool false) (by kernel_rfl) (congrArg Value.bool (decide_eq_false q1))
  refine cond_f hF (by kernel_rfl) (by kernel_rfl) ?_
  refine wp_skip ?_
  refine hK4 _ _ ?_
  refine wp_seq_k fun K10 hK10 => ?_
  refine wp_seq_k fun K11 hK11 => ?_
  refine wp_region_lit ?_
  refine Vp hF (.int .i64 ((n : Int))) ?_; clear hF; intro a hF
  refine Vp hF (.bool (decide ((n : Int) > 99))) ?_; clear hF; intro a hF
  refine L_nil ?_
  refine hK11 _ _ ?_
  replace hF := hF.know (d := 26) (v' := .bool false) (by kernel_rfl) (congrArg Value.bool (decide_eq_false (show ¬ ((n : Int) > 99) from (by omega))))
  refine cond_f hF (by kernel_rfl) (by kernel_rfl) ?_
  refine wp_skip ?_
  refine hK10 _ _ ?_
  refine wp_seq_k fun K12 hK12 => ?_
  refine wp_region_lit ?_
  refine Vp hF (.string ((⟨#[48, 49, 50, 51, 52, 53, 54, 55, 56, 57]⟩ : ByteArray).extract (((n : Int) % 10).toNat) (((n : Int) % 10 + 1).toNat))) ?_; clear hF; intro a hF
  refine Vp hF (.string ((⟨#[48, 49, 50, 51, 52, 53, 54, 55, 56, 57]⟩ : ByteArray).extract (((n : Int) % 10).toNat) (((n : Int) % 10 + 1).toNat))) ?_; clear hF; intro a hF
  refine L_nil ?_
  refine hK12 _ _ ?_
  refine wp_ret ?_
  refine ret1 hF (v := .string ((⟨#[48, 49, 50, 51, 52, 53, 54, 55, 56, 57]⟩ : ByteArray).extract (((n : Int) % 10).toNat) (((n : Int) % 10 + 1).toNat))) rfl (resT (by kernel_rfl)) (by refine ⟨?_, hO.nil⟩; exact congrArg Value.string (dec_1 (n := n) (by omega))) .ret (.inl rfl)

theorem num_cd (n : Int) (W : World) (h : 0 ≤ n ∧ n ≤ 128) : Ret Tryz.prog 107 #[.int .i64 n] W fun v W' => v = .string ⟨(Lib.itoa n).toArray⟩ ∧ Own W noX [] W' := by
  obtain ⟨m, rfl⟩ := Int.eq_ofNat_of_zero_le h.1
  rw [itoa_nat]
  exact ref03_numeral m W (by omega)
theorem fmtCd_len (c : Pt) : (fmtCd c).size ≤ 60 := by
  have h1 := fmtS_len c.ip
  unfold fmtCd
  split
  · rename_i h
    have hb := rightCd_bd h
    have h2 := itoa_size (n := c.port) (by omega) (by omega)
    show (fmtCdL c).length ≤ 60
    unfold fmtCdL
    have h3 : (fmtL c.ip).length = (fmtS c.ip).size := rfl
    simp only [List.length_append, List.length_cons, List.length_nil]
    omega
  · exact Nat.zero_le _
set_option maxRecDepth 20000 in
theorem ref03_Format (c : Pt) (W : World) : Ret Tryz.prog 56 #[ptV c] W fun v W' => v = .string (fmtCd c) ∧ Own W noX [] W' := by
 refine enter Tryz.func56 rfl (n := 14) rfl (by kernel_rfl) (E0 := [(0, ptV c)]) (by kernel_rfl) ?_
 intro a hF; have hO := Own.start W noX
 refine wp_seq_k fun K1 hK1 => ?_
 refine wp_region_lit ?_
 refine L_new hF hO (by kernel_rfl) (by kernel_rfl) (vf := fun b => .pointer (some ⟨b, 0, none⟩)) (ob := .cells #[.bool c.ip.six, .int .u8 ((c.ip.b0.toNat : Int)), .int .u8 ((c.ip.b1.toNat : Int)), .int .u8 ((c.ip.b2.toNat : Int)), .int .u8 ((c.ip.b3.toNat : Int)), .int .u8 ((c.ip.b4.toNat : Int)), .int .u8 ((c.ip.b5.toNat : Int)), .int .u8 ((c.ip.b6.toNat : Int)), .int .u8 ((c.ip.b7.toNat : Int)), .int .u8 ((c.ip.b8.toNat : Int)), .int .u8 ((c.ip.b9.toNat : Int)), .int .u8 ((c.ip.b10.toNat : Int)), .int .u8 ((c.ip.b11.toNat : Int)), .int .u8 ((c.ip.b12.toNat : Int)), .int .u8 ((c.ip.b13.toNat : Int)), .int .u8 ((c.ip.b14.toNat : Int)), .int .u8 ((c.ip.b15.toNat : Int)), .int .i64 (c.port)] 68) (by kernel_rfl) (by kernel_rfl) ?_
 clear hF hO; intro b1 W1 a hO hF
 refine Vp hF (.string (⟨#[]⟩ : ByteArray)) ?_; clear hF; intro a hF
 refine L_nil ?_
 refine hK1 _ _ ?_
 refine wp_seq_k fun K2 hK2 => ?_
 refine wp_seq_k fun K3 hK3 => ?_
 refine wp_region_lit ?_
 refine Vr hF (.agg #[.bool c.ip.six, .int .u8 ((c.ip.b0.toNat : Int)), .int .u8 ((c.ip.b1.toNat : Int)), .int .u8 ((c.ip.b2.toNat : Int)), .int .u8 ((c.ip.b3.toNat : Int)), .int .u8 ((c.ip.b4.toNat : Int)), .int .u8 ((c.ip.b5.toNat : Int)), .int .u8 ((c.ip.b6.toNat : Int)), .int .u8 ((c.ip.b7.toNat : Int)), .int .u8 ((c.ip.b8.toNat : Int)), .int .u8 ((c.ip.b9.toNat : Int)), .int .u8 ((c.ip.b10.toNat : Int)), .int .u8 ((c.ip.b11.toNat : Int)), .int .u8 ((c.ip.b12.toNat : Int)), .int .u8 ((c.ip.b13.toNat : Int)), .int .u8 ((c.ip.b14.toNat : Int)), .int .u8 ((c.ip.b15.toNat : Int)), .int .i64 (c.port)]) (x_load (p := .pointer (some ⟨b1, 0, none⟩)) rfl (by kernel_rfl) (run_loadA (k := 18) (by kernel_rfl) (by kernel_rfl) (hO.blk List.mem_cons_self) (by kernel_rfl) (by kernel_rfl))) ?_; clear hF; intro a hF
 refine Lc hF (ref03_Right c W1) ?_
 clear hF; rintro _ W2 a ⟨rfl, hk⟩ hF
 replace hO := hO.call0 hk; clear hk
 refine Vp hF (.bool (!(rightCd c))) ?_; clear hF; intro a hF
 refine L_nil ?_
 refine hK3 _ _ ?_
 cases q1 : (rightCd c : Bool)
 ·
  replace hF := hF.know (d := 5) (v' := .bool true) (by kernel_rfl) (congrArg Value.bool (notT q1))
  refine cond_t hF (by kernel_rfl) (by kernel_rfl) ?_
  refine wp_seq_k fun K4 hK4 => ?_
  refine wp_region_lit ?_
  refine Vp hF (.string (⟨#[]⟩ : ByteArray)) ?_; clear hF; intro a hF
  refine L_nil ?_
  refine hK4 _ _ ?_
  refine wp_ret ?_
  refine then_ret ?_
  refine ret1 hF (v := .string (⟨#[]⟩ : ByteArray)) rfl (resT (by kernel_rfl)) (by refine ⟨?_, hO.nil⟩; first | (rw [fmtCd_no (by assumption)]; done) | (rw [fmtCd_yes (by assumption)]; done)) .ret (.inl rfl)
 ·
  replace hF := hF.know (d := 5) (v' := .bool false) (by kernel_rfl) (congrArg Value.bool (notF q1))
  refine cond_f hF (by kernel_rfl) (by kernel_rfl) ?_
  refine wp_skip ?_
  refine hK2 _ _ ?_
  refine wp_seq_k fun K5 hK5 => ?_
  refine A_start (fun Wx => Own W noX [.blk b1 (.cells #[.bool c.ip.six, .int .u8 ((c.ip.b0.toNat : Int)), .int .u8 ((c.ip.b1.toNat : Int)), .int .u8 ((c.ip.b2.toNat : Int)), .int .u8 ((c.ip.b3.toNat : Int)), .int .u8 ((c.ip.b4.toNat : Int)), .int .u8 ((c.ip.b5.toNat : Int)), .int .u8 ((c.ip.b6.toNat : Int)), .int .u8 ((c.ip.b7.toNat : Int)), .int .u8 ((c.ip.b8.toNat : Int)), .int .u8 ((c.ip.b9.toNat : Int)), .int .u8 ((c.ip.b10.toNat : Int)), .int .u8 ((c.ip.b11.toNat : Int)), .int .u8 ((c.ip.b12.toNat : Int)), .int .u8 ((c.ip.b13.toNat : Int)), .int .u8 ((c.ip.b14.toNat : Int)), .int .u8 ((c.ip.b15.toNat : Int)), .int .i64 (c.port)] 68 (0, 0))] Wx) (by kernel_rfl) ?_
  replace hO := hO.drewN 1
  generalize hWd : ({ W2 with drawn := W2.drawn + 1 } : World) = W2_d at hO ⊢; clear hWd
  have hS := hO.sub (.cons_cons _ (List.nil_sublist _))
  refine Tk 0 rfl hF (.pointer (some ⟨b1, 0, none⟩)) (fun Wx _ => by kernel_rfl) hS ?_; clear hF; intro a hF
  refine Tk 1 rfl hF (ipV c.ip) (fun Wx hO => x_load (p := .pointer (some ⟨b1, 0, none⟩)) rfl (by kernel_rfl) (run_loadA (k := 17) (by kernel_rfl) (by kernel_rfl) (hO.blk List.mem_cons_self) (by kernel_rfl) (by kernel_rfl))) hS ?_; clear hF; intro a hF
  refine Tk 4 rfl hF (.pointer (some ⟨b1, 17, none⟩)) (fun Wx _ => by kernel_rfl) hS ?_; clear hF; intro a hF
  refine Tk 5 rfl hF (.int .i64 (c.port)) (fun Wx hO => x_load (p := .pointer (some ⟨b1, 17, none⟩)) rfl (by kernel_rfl) (run_load1 (by kernel_rfl) ((hO.cell List.mem_cons_self).trans (by kernel_rfl)))) hS ?_; clear hF; intro a hF
  refine A_one (i := 2) (listed' := #[true, true, true, false, true, true, false, false, false]) (by kernel_rfl) rfl (by kernel_rfl) ?_
  refine OpK.lc hF (ref02_Format c.ip W2_d) ?_
  clear hF; rintro _ W3 a ⟨rfl, hk⟩ hF
  replace hO := hO.call0 hk; clear hk
  refine ⟨hO.sub (.cons_cons _ (List.nil_sublist _)), ?_⟩
  have hS := hO.sub (.cons_cons _ (List.nil_sublist _))
  refine Tk 3 rfl hF (.string ((fmtS c.ip) ++ (⟨#[47]⟩ : ByteArray))) (fun Wx _ => (x_cat (s := fmtS c.ip) (t := (⟨#[47]⟩ : ByteArray)) rfl (by kernel_rfl) (by kernel_rfl) (by (first | omega | (have hb := rightCd_bd (c := c) (by assumption); omega) | (have hb := rightCd_bd (c := c) (by assumption); have h1 := fmtS_len c.ip; have h2 := itoa_size (n := c.port) (by omega) (by omega); (try simp only [ByteArray.size_append]); (simp only [ByteArray.size, List.size_toArray, List.length_cons, List.length_nil] at *); omega))))) hS ?_; clear hF; intro a hF
  refine A_one (i := 6) (listed' := #[true, true, true, true, true, true, true, false, false]) (by kernel_rfl) rfl (by kernel_rfl) ?_
  refine OpK.lc hF (num_cd c.port W3 (by (first | omega | (have hb := rightCd_bd (c := c) (by assumption); omega) | (have hb := rightCd_bd (c := c) (by assumption); have h1 := fmtS_len c.ip; have h2 := itoa_size (n := c.port) (by omega) (by omega); (try simp only [ByteArray.size_append]); (simp only [ByteArray.size, List.size_toArray, List.length_cons, List.length_nil] at *); omega)))) ?_
  clear hF; rintro _ W4 a ⟨rfl, hk⟩ hF
  replace hO := hO.call0 hk; clear hk
  refine ⟨hO.sub (.cons_cons _ (List.nil_sublist _)), ?_⟩
  have hS := hO.sub (.cons_cons _ (List.nil_sublist _))
  refine Tk 7 rfl hF (.string (((fmtS c.ip) ++ (⟨#[47]⟩ : ByteArray)) ++ (⟨(Lib.itoa c.port).toArray⟩ : ByteArray))) (fun Wx _ => (x_cat (s := (fmtS c.ip) ++ (⟨#[47]⟩ : ByteArray)) (t := (⟨(Lib.itoa c.port).toArray⟩ : ByteArray)) rfl (by kernel_rfl) (by kernel_rfl) (by (first | omega | (have hb := rightCd_bd (c := c) (by assumption); omega) | (have hb := rightCd_bd (c := c) (by assumption); have h1 := fmtS_len c.ip; have h2 := itoa_size (n := c.port) (by omega) (by omega); (try simp only [ByteArray.size_append]); (simp only [ByteArray.size, List.size_toArray, List.length_cons, List.length_nil] at *); omega))))) hS ?_; clear hF; intro a hF
  refine Tk 8 rfl hF (.string (((fmtS c.ip) ++ (⟨#[47]⟩ : ByteArray)) ++ (⟨(Lib.itoa c.port).toArray⟩ : ByteArray))) (fun Wx _ => by kernel_rfl) hS ?_; clear hF; intro a hF
  refine A_done (by kernel_rfl) ?_
  refine hK5 _ _ ?_
  refine wp_ret ?_
  refine ret1 hF (v := .string (((fmtS c.ip) ++ (⟨#[47]⟩ : ByteArray)) ++ (⟨(Lib.itoa c.port).toArray⟩ : ByteArray))) rfl (resT (by kernel_rfl)) (by refine ⟨?_, hO.nil⟩; first | (rw [fmtCd_no (by assumption)]; done) | (rw [fmtCd_yes (by assumption)]; done)) .ret (.inl rfl)

set_option maxRecDepth 20000 in
theorem law03_CidrParses_s (I : List Nat) (ea : Nat → Addr) (s : ByteArray) (c : Pt) (x0 : Pt) (W : World) (hG : LibW W) (hE : Errs I ea W) (h3 : I.contains 3 = true) (h0 : I.contains 0 = true) (h7 : I.contains 7 = true) (hI : I = errIs) (hp : parseCd s = .ok x0) : Ret Tryz.prog 9 #[.string s, ptV c] W fun v W' => v = .bool true ∧ Own W noX [] W' := by
 refine enter Tryz.func9 rfl (n := 64) rfl (by kernel_rfl) (E0 := [(1, ptV c), (0, .string s)]) (by kernel_rfl) ?_
 intro a hF; have hO := Own.start W noX
 refine wp_seq_k fun K1 hK1 => ?_
 refine wp_region_lit ?_
 refine L_new hF hO (by kernel_rfl) (by kernel_rfl) (vf := fun b => .pointer (some ⟨b, 0, none⟩)) (ob := .cells #[.bool c.ip.six, .int .u8 ((c.ip.b0.toNat : Int)), .int .u8 ((c.ip.b1.toNat : Int)), .int .u8 ((c.ip.b2.toNat : Int)), .int .u8 ((c.ip.b3.toNat : Int)), .int .u8 ((c.ip.b4.toNat : Int)), .int .u8 ((c.ip.b5.toNat : Int)), .int .u8 ((c.ip.b6.toNat : Int)), .int .u8 ((c.ip.b7.toNat : Int)), .int .u8 ((c.ip.b8.toNat : Int)), .int .u8 ((c.ip.b9.toNat : Int)), .int .u8 ((c.ip.b10.toNat : Int)), .int .u8 ((c.ip.b11.toNat : Int)), .int .u8 ((c.ip.b12.toNat : Int)), .int .u8 ((c.ip.b13.toNat : Int)), .int .u8 ((c.ip.b14.toNat : Int)), .int .u8 ((c.ip.b15.toNat : Int)), .int .i64 (c.port)] 68) (by kernel_rfl) (by kernel_rfl) ?_
 clear hF hO; intro b1 W1 a hO hF
 refine Vp hF (.bool false) ?_; clear hF; intro a hF
 refine L_nil ?_
 refine hK1 _ _ ?_
 refine wp_seq_k fun K2 hK2 => ?_
 refine wp_seq_k fun K3 hK3 => ?_
 refine wp_region_lit ?_
 refine Lc hF (law03_alive I ea W1 (hG.own hO) (hE.own hO) h3 h0 h7) ?_
 clear hF; rintro _ W2 a ⟨rfl, hk⟩ hF
 replace hO := hO.call0 hk; clear hk
 refine Vp hF (.bool false) ?_; clear hF; intro a hF
 refine L_nil ?_
 refine hK3 _ _ ?_
 refine cond_f hF (by kernel_rfl) (by kernel_rfl) ?_
 refine wp_skip ?_
 refine hK2 _ _ ?_
 refine wp_seq_k fun K4 hK4 => ?_
 refine wp_seq_k fun K5 hK5 => ?_
 refine wp_region_lit ?_
 refine Vp hF (.string s) ?_; clear hF; intro a hF
 refine Vp hF (.int .i64 ((s.size : Int))) ?_; clear hF; intro a hF
 refine Vp hF (.bool (decide ((s.size : Int) > 200))) ?_; clear hF; intro a hF
 refine L_nil ?_
 refine hK5 _ _ ?_
 by_cases q1 : (s.size : Int) > 200
 ·
  replace hF := hF.know (d := 14) (v' := .bool true) (by kernel_rfl) (congrArg Value.bool (decide_eq_true q1))
  refine cond_t hF (by kernel_rfl) (by kernel_rfl) ?_
  refine wp_seq_k fun K6 hK6 => ?_
  refine wp_region_lit ?_
  refine Vp hF (.bool true) ?_; clear hF; intro a hF
  refine L_nil ?_
  refine hK6 _ _ ?_
  refine wp_ret ?_
  refine then_ret ?_
  refine ret1 hF (v := .bool true) rfl (resT (by kernel_rfl)) (by refine ⟨?_, hO.nil⟩; first | rfl | (exfalso; simp_all; done) | (simp; done)) .ret (.inl rfl)
 ·
  replace hF := hF.know (d := 14) (v' := .bool false) (by kernel_rfl) (congrArg Value.bool (decide_eq_false q1))
  refine cond_f hF (by kernel_rfl) (by kernel_rfl) ?_
  refine wp_skip ?_
  refine hK4 _ _ ?_
  refine wp_seq_k fun K7 hK7 => ?_
  refine wp_region_lit ?_
  refine Vp hF (.string s) ?_; clear hF; intro a hF
  refine Lc hF ((cidr_Parse I ea s W2 (hG.own hO) (hE.own hO) h3 h0 h7 (by omega)).mono fun v W' h => (⟨by rw [h.1, hp]; rfl, h.2⟩ : v = .tuple #[ptV x0, .nilIface] ∧ Own W2 noX [] W')) ?_
  clear hF; rintro _ W3 a ⟨rfl, hk⟩ hF
  replace hO := hO.call0 hk; clear hk
  refine Vp hF (.tuple #[ptV x0, .nilIface]) ?_; clear hF; intro a hF
  refine Vp hF (ptV x0) ?_; clear hF; intro a hF
  refine Vp hF (.nilIface) ?_; clear hF; intro a hF
  refine L_new hF hO (by kernel_rfl) (by kernel_rfl) (vf := fun b => .pointer (some ⟨b, 0, none⟩)) (ob := .cells zPL03d 68) (by kernel_rfl) (by kernel_rfl) ?_
  clear hF hO; intro b2 W4 a hO hF
  obtain ⟨W5, hst, hO1⟩ := run_storeAt (P := Tryz.prog) (k := 18) (T := 68) (off := 0) (v := ptV x0) (cs := zPL03d) (cs' := #[.bool x0.ip.six, .int .u8 ((x0.ip.b0.toNat : Int)), .int .u8 ((x0.ip.b1.toNat : Int)), .int .u8 ((x0.ip.b2.toNat : Int)), .int .u8 ((x0.ip.b3.toNat : Int)), .int .u8 ((x0.ip.b4.toNat : Int)), .int .u8 ((x0.ip.b5.toNat : Int)), .int .u8 ((x0.ip.b6.toNat : Int)), .int .u8 ((x0.ip.b7.toNat : Int)), .int .u8 ((x0.ip.b8.toNat : Int)), .int .u8 ((x0.ip.b9.toNat : Int)), .int .u8 ((x0.ip.b10.toNat : Int)), .int .u8 ((x0.ip.b11.toNat : Int)), .int .u8 ((x0.ip.b12.toNat : Int)), .int .u8 ((x0.ip.b13.toNat : Int)), .int .u8 ((x0.ip.b14.toNat : Int)), .int .u8 ((x0.ip.b15.toNat : Int)), .int .i64 (x0.port)]) hO (by kernel_rfl) (by kernel_rfl) (by kernel_rfl) (Nat.le_of_ble_eq_true (by kernel_rfl)) (by kernel_rfl) (.head _)
  refine L_skip hF (by kernel_rfl) (by kernel_rfl) (x_store (p := .pointer (some ⟨b2, 0, none⟩)) (v := ptV x0) rfl (by kernel_rfl) (by kernel_rfl) hst) (by kernel_rfl) ?_
  clear hst hF; intro a hF; replace hO := hO1; clear hO1
  refine Vp hF (.nilIface) ?_; clear hF; intro a hF
  refine L_nil ?_
  refine hK7 _ _ ?_
  refine wp_seq_k fun K8 hK8 => ?_
  refine wp_region_lit ?_
  refine Vp hF (.string s) ?_; clear hF; intro a hF
  refine Lc hF ((ref03_Parse s W5 (by omega)).mono fun v W' h => (⟨by rw [h.1, hp]; rfl, h.2⟩ : v = .tuple #[ptV x0, .int .i64 0] ∧ Own W5 noX [] W')) ?_
  clear hF; rintro _ W6 a ⟨rfl, hk⟩ hF
  replace hO := hO.call0 hk; clear hk
  refine Vp hF (.tuple #[ptV x0, .int .i64 0]) ?_; clear hF; intro a hF
  refine Vp hF (ptV x0) ?_; clear hF; intro a hF
  refine Vp hF (.int .i64 0) ?_; clear hF; intro a hF
  refine L_new hF hO (by kernel_rfl) (by kernel_rfl) (vf := fun b => .pointer (some ⟨b, 0, none⟩)) (ob := .cells zPL03d 68) (by kernel_rfl) (by kernel_rfl) ?_
  clear hF hO; intro b3 W7 a hO hF
  obtain ⟨W8, hst, hO1⟩ := run_storeAt (P := Tryz.prog) (k := 18) (T := 68) (off := 0) (v := ptV x0) (cs := zPL03d) (cs' := #[.bool x0.ip.six, .int .u8 ((x0.ip.b0.toNat : Int)), .int .u8 ((x0.ip.b1.toNat : Int)), .int .u8 ((x0.ip.b2.toNat : Int)), .int .u8 ((x0.ip.b3.toNat : Int)), .int .u8 ((x0.ip.b4.toNat : Int)), .int .u8 ((x0.ip.b5.toNat : Int)), .int .u8 ((x0.ip.b6.toNat : Int)), .int .u8 ((x0.ip.b7.toNat : Int)), .int .u8 ((x0.ip.b8.toNat : Int)), .int .u8 ((x0.ip.b9.toNat : Int)), .int .u8 ((x0.ip.b10.toNat : Int)), .int .u8 ((x0.ip.b11.toNat : Int)), .int .u8 ((x0.ip.b12.toNat : Int)), .int .u8 ((x0.ip.b13.toNat : Int)), .int .u8 ((x0.ip.b14.toNat : Int)), .int .u8 ((x0.ip.b15.toNat : Int)), .int .i64 (x0.port)]) hO (by kernel_rfl) (by kernel_rfl) (by kernel_rfl) (Nat.le_of_ble_eq_true (by kernel_rfl)) (by kernel_rfl) (.head _)
  refine L_skip hF (by kernel_rfl) (by kernel_rfl) (x_store (p := .pointer (some ⟨b3, 0, none⟩)) (v := ptV x0) rfl (by kernel_rfl) (by kernel_rfl) hst) (by kernel_rfl) ?_
  clear hst hF; intro a hF; replace hO := hO1; clear hO1
  refine Vp hF (.int .i64 0) ?_; clear hF; intro a hF
  refine L_nil ?_
  refine hK8 _ _ ?_
  refine wp_seq_k fun K9 hK9 => ?_
  refine wp_seq_k fun K10 hK10 => ?_
  refine A_start (fun Wx => Own W noX [.blk b3 (.cells #[.bool x0.ip.six, .int .u8 ((x0.ip.b0.toNat : Int)), .int .u8 ((x0.ip.b1.toNat : Int)), .int .u8 ((x0.ip.b2.toNat : Int)), .int .u8 ((x0.ip.b3.toNat : Int)), .int .u8 ((x0.ip.b4.toNat : Int)), .int .u8 ((x0.ip.b5.toNat : Int)), .int .u8 ((x0.ip.b6.toNat : Int)), .int .u8 ((x0.ip.b7.toNat : Int)), .int .u8 ((x0.ip.b8.toNat : Int)), .int .u8 ((x0.ip.b9.toNat : Int)), .int .u8 ((x0.ip.b10.toNat : Int)), .int .u8 ((x0.ip.b11.toNat : Int)), .int .u8 ((x0.ip.b12.toNat : Int)), .int .u8 ((x0.ip.b13.toNat : Int)), .int .u8 ((x0.ip.b14.toNat : Int)), .int .u8 ((x0.ip.b15.toNat : Int)), .int .i64 (x0.port)] 68 (0, 0)), .blk b2 (.cells #[.bool x0.ip.six, .int .u8 ((x0.ip.b0.toNat : Int)), .int .u8 ((x0.ip.b1.toNat : Int)), .int .u8 ((x0.ip.b2.toNat : Int)), .int .u8 ((x0.ip.b3.toNat : Int)), .int .u8 ((x0.ip.b4.toNat : Int)), .int .u8 ((x0.ip.b5.toNat : Int)), .int .u8 ((x0.ip.b6.toNat : Int)), .int .u8 ((x0.ip.b7.toNat : Int)), .int .u8 ((x0.ip.b8.toNat : Int)), .int .u8 ((x0.ip.b9.toNat : Int)), .int .u8 ((x0.ip.b10.toNat : Int)), .int .u8 ((x0.ip.b11.toNat : Int)), .int .u8 ((x0.ip.b12.toNat : Int)), .int .u8 ((x0.ip.b13.toNat : Int)), .int .u8 ((x0.ip.b14.toNat : Int)), .int .u8 ((x0.ip.b15.toNat : Int)), .int .i64 (x0.port)] 68 (0, 0)), .blk b1 (.cells #[.bool c.ip.six, .int .u8 ((c.ip.b0.toNat : Int)), .int .u8 ((c.ip.b1.toNat : Int)), .int .u8 ((c.ip.b2.toNat : Int)), .int .u8 ((c.ip.b3.toNat : Int)), .int .u8 ((c.ip.b4.toNat : Int)), .int .u8 ((c.ip.b5.toNat : Int)), .int .u8 ((c.ip.b6.toNat : Int)), .int .u8 ((c.ip.b7.toNat : Int)), .int .u8 ((c.ip.b8.toNat : Int)), .int .u8 ((c.ip.b9.toNat : Int)), .int .u8 ((c.ip.b10.toNat : Int)), .int .u8 ((c.ip.b11.toNat : Int)), .int .u8 ((c.ip.b12.toNat : Int)), .int .u8 ((c.ip.b13.toNat : Int)), .int .u8 ((c.ip.b14.toNat : Int)), .int .u8 ((c.ip.b15.toNat : Int)), .int .i64 (c.port)] 68 (0, 0))] Wx) (by kernel_rfl) ?_
  replace hO := hO.drewN 1
  generalize hWd : ({ W8 with drawn := W8.drawn + 1 } : World) = W8_d at hO ⊢; clear hWd
  have hS := hO.sub (.cons_cons _ (.cons_cons _ (.cons_cons _ (List.nil_sublist _))))
  refine Tk 0 rfl hF (.agg #[.bool x0.ip.six, .int .u8 ((x0.ip.b0.toNat : Int)), .int .u8 ((x0.ip.b1.toNat : Int)), .int .u8 ((x0.ip.b2.toNat : Int)), .int .u8 ((x0.ip.b3.toNat : Int)), .int .u8 ((x0.ip.b4.toNat : Int)), .int .u8 ((x0.ip.b5.toNat : Int)), .int .u8 ((x0.ip.b6.toNat : Int)), .int .u8 ((x0.ip.b7.toNat : Int)), .int .u8 ((x0.ip.b8.toNat : Int)), .int .u8 ((x0.ip.b9.toNat : Int)), .int .u8 ((x0.ip.b10.toNat : Int)), .int .u8 ((x0.ip.b11.toNat : Int)), .int .u8 ((x0.ip.b12.toNat : Int)), .int .u8 ((x0.ip.b13.toNat : Int)), .int .u8 ((x0.ip.b14.toNat : Int)), .int .u8 ((x0.ip.b15.toNat : Int)), .int .i64 (x0.port)]) (fun Wx hO => x_load (p := .pointer (some ⟨b2, 0, none⟩)) rfl (by kernel_rfl) (run_loadA (k := 18) (by kernel_rfl) (by kernel_rfl) (hO.blk (List.mem_cons_of_mem _ List.mem_cons_self)) (by kernel_rfl) (by kernel_rfl))) hS ?_; clear hF; intro a hF
  refine Tk 1 rfl hF (.agg #[.bool x0.ip.six, .int .u8 ((x0.ip.b0.toNat : Int)), .int .u8 ((x0.ip.b1.toNat : Int)), .int .u8 ((x0.ip.b2.toNat : Int)), .int .u8 ((x0.ip.b3.toNat : Int)), .int .u8 ((x0.ip.b4.toNat : Int)), .int .u8 ((x0.ip.b5.toNat : Int)), .int .u8 ((x0.ip.b6.toNat : Int)), .int .u8 ((x0.ip.b7.toNat : Int)), .int .u8 ((x0.ip.b8.toNat : Int)), .int .u8 ((x0.ip.b9.toNat : Int)), .int .u8 ((x0.ip.b10.toNat : Int)), .int .u8 ((x0.ip.b11.toNat : Int)), .int .u8 ((x0.ip.b12.toNat : Int)), .int .u8 ((x0.ip.b13.toNat : Int)), .int .u8 ((x0.ip.b14.toNat : Int)), .int .u8 ((x0.ip.b15.toNat : Int)), .int .i64 (x0.port)]) (fun Wx hO => x_load (p := .pointer (some ⟨b3, 0, none⟩)) rfl (by kernel_rfl) (run_loadA (k := 18) (by kernel_rfl) (by kernel_rfl) (hO.blk List.mem_cons_self) (by kernel_rfl) (by kernel_rfl))) hS ?_; clear hF; intro a hF
  refine Tk 2 rfl hF (.bool false) (fun Wx _ => (x_bool (x := !(decide (x0 = x0))) (notF (decide_eq_true rfl)) (x_neCd (a := x0) (b := x0) rfl (by kernel_rfl) (by kernel_rfl)))) hS ?_; clear hF; intro a hF
  refine Tk 3 rfl hF (.bool false) (fun Wx _ => by kernel_rfl) hS ?_; clear hF; intro a hF
  refine Tk 4 rfl hF (.nilIface) (fun Wx _ => by kernel_rfl) hS ?_; clear hF; intro a hF
  refine Tk 6 rfl hF (.int .i64 0) (fun Wx _ => by kernel_rfl) hS ?_; clear hF; intro a hF
  refine A_one (i := 5) (listed' := #[true, true, true, true, true, true, true, false, false, false, false, false, false, false, false, false, false, false, false, false, false, false, false]) (by kernel_rfl) rfl (by kernel_rfl) ?_
  refine OpK.lc hF (num_nil W8_d) ?_
  clear hF; rintro _ W9 a ⟨rfl, hk⟩ hF
  replace hO := hO.call0 hk; clear hk
  refine ⟨hO.sub (.cons_cons _ (.cons_cons _ (.cons_cons _ (List.nil_sublist _)))), ?_⟩
  have hS := hO.sub (.cons_cons _ (.cons_cons _ (.cons_cons _ (List.nil_sublist _))))
  refine Tk 7 rfl hF (.bool false) (fun Wx _ => by kernel_rfl) hS ?_; clear hF; intro a hF
  refine Tk 8 rfl hF (.bool false) (fun Wx _ => by kernel_rfl) hS ?_; clear hF; intro a hF
  refine Tk 9 rfl hF (.bool false) (fun Wx _ => by kernel_rfl) hS ?_; clear hF; intro a hF
  refine Tk 10 rfl hF (.agg #[.bool c.ip.six, .int .u8 ((c.ip.b0.toNat : Int)), .int .u8 ((c.ip.b1.toNat : Int)), .int .u8 ((c.ip.b2.toNat : Int)), .int .u8 ((c.ip.b3.toNat : Int)), .int .u8 ((c.ip.b4.toNat : Int)), .int .u8 ((c.ip.b5.toNat : Int)), .int .u8 ((c.ip.b6.toNat : Int)), .int .u8 ((c.ip.b7.toNat : Int)), .int .u8 ((c.ip.b8.toNat : Int)), .int .u8 ((c.ip.b9.toNat : Int)), .int .u8 ((c.ip.b10.toNat : Int)), .int .u8 ((c.ip.b11.toNat : Int)), .int .u8 ((c.ip.b12.toNat : Int)), .int .u8 ((c.ip.b13.toNat : Int)), .int .u8 ((c.ip.b14.toNat : Int)), .int .u8 ((c.ip.b15.toNat : Int)), .int .i64 (c.port)]) (fun Wx hO => x_load (p := .pointer (some ⟨b1, 0, none⟩)) rfl (by kernel_rfl) (run_loadA (k := 18) (by kernel_rfl) (by kernel_rfl) (hO.blk (List.mem_cons_of_mem _ (List.mem_cons_of_mem _ List.mem_cons_self))) (by kernel_rfl) (by kernel_rfl))) hS ?_; clear hF; intro a hF
  refine Tk 12 rfl hF (.agg #[.bool c.ip.six, .int .u8 ((c.ip.b0.toNat : Int)), .int .u8 ((c.ip.b1.toNat : Int)), .int .u8 ((c.ip.b2.toNat : Int)), .int .u8 ((c.ip.b3.toNat : Int)), .int .u8 ((c.ip.b4.toNat : Int)), .int .u8 ((c.ip.b5.toNat : Int)), .int .u8 ((c.ip.b6.toNat : Int)), .int .u8 ((c.ip.b7.toNat : Int)), .int .u8 ((c.ip.b8.toNat : Int)), .int .u8 ((c.ip.b9.toNat : Int)), .int .u8 ((c.ip.b10.toNat : Int)), .int .u8 ((c.ip.b11.toNat : Int)), .int .u8 ((c.ip.b12.toNat : Int)), .int .u8 ((c.ip.b13.toNat : Int)), .int .u8 ((c.ip.b14.toNat : Int)), .int .u8 ((c.ip.b15.toNat : Int)), .int .i64 (c.port)]) (fun Wx hO => x_load (p := .pointer (some ⟨b1, 0, none⟩)) rfl (by kernel_rfl) (run_loadA (k := 18) (by kernel_rfl) (by kernel_rfl) (hO.blk (List.mem_cons_of_mem _ (List.mem_cons_of_mem _ List.mem_cons_self))) (by kernel_rfl) (by kernel_rfl))) hS ?_; clear hF; intro a hF
  refine A_one (i := 11) (listed' := #[true, true, true, true, true, true, true, true, true, true, true, true, true, false, false, false, false, false, false, false, false, false, false]) (by kernel_rfl) rfl (by kernel_rfl) ?_
  refine OpK.lc hF (cidr_Right c W9) ?_
  clear hF; rintro _ W10 a ⟨rfl, hk⟩ hF
  replace hO := hO.call0 hk; clear hk
  refine ⟨hO.sub (.cons_cons _ (.cons_cons _ (.cons_cons _ (List.nil_sublist _)))), ?_⟩
  refine A_one (i := 13) (listed' := #[true, true, true, true, true, true, true, true, true, true, true, true, true, true, false, false, false, false, false, false, false, false, false]) (by kernel_rfl) rfl (by kernel_rfl) ?_
  refine OpK.lc hF (ref03_Right c W10) ?_
  clear hF; rintro _ W11 a ⟨rfl, hk⟩ hF
  replace hO := hO.call0 hk; clear hk
  refine ⟨hO.sub (.cons_cons _ (.cons_cons _ (.cons_cons _ (List.nil_sublist _)))), ?_⟩
  have hS := hO.sub (.cons_cons _ (.cons_cons _ (.cons_cons _ (List.nil_sublist _))))
  refine Tk 14 rfl hF (.bool false) (fun Wx _ => (x_bool (x := !((rightCd c) == (rightCd c))) (notF (beq_self_eq_true _)) (by kernel_rfl))) hS ?_; clear hF; intro a hF
  refine Tk 15 rfl hF (.bool false) (fun Wx _ => by kernel_rfl) hS ?_; clear hF; intro a hF
  refine Tk 16 rfl hF (.bool false) (fun Wx _ => by kernel_rfl) hS ?_; clear hF; intro a hF
  refine Tk 17 rfl hF (.agg #[.bool c.ip.six, .int .u8 ((c.ip.b0.toNat : Int)), .int .u8 ((c.ip.b1.toNat : Int)), .int .u8 ((c.ip.b2.toNat : Int)), .int .u8 ((c.ip.b3.toNat : Int)), .int .u8 ((c.ip.b4.toNat : Int)), .int .u8 ((c.ip.b5.toNat : Int)), .int .u8 ((c.ip.b6.toNat : Int)), .int .u8 ((c.ip.b7.toNat : Int)), .int .u8 ((c.ip.b8.toNat : Int)), .int .u8 ((c.ip.b9.toNat : Int)), .int .u8 ((c.ip.b10.toNat : Int)), .int .u8 ((c.ip.b11.toNat : Int)), .int .u8 ((c.ip.b12.toNat : Int)), .int .u8 ((c.ip.b13.toNat : Int)), .int .u8 ((c.ip.b14.toNat : Int)), .int .u8 ((c.ip.b15.toNat : Int)), .int .i64 (c.port)]) (fun Wx hO => x_load (p := .pointer (some ⟨b1, 0, none⟩)) rfl (by kernel_rfl) (run_loadA (k := 18) (by kernel_rfl) (by kernel_rfl) (hO.blk (List.mem_cons_of_mem _ (List.mem_cons_of_mem _ List.mem_cons_self))) (by kernel_rfl) (by kernel_rfl))) hS ?_; clear hF; intro a hF
  refine Tk 19 rfl hF (.agg #[.bool c.ip.six, .int .u8 ((c.ip.b0.toNat : Int)), .int .u8 ((c.ip.b1.toNat : Int)), .int .u8 ((c.ip.b2.toNat : Int)), .int .u8 ((c.ip.b3.toNat : Int)), .int .u8 ((c.ip.b4.toNat : Int)), .int .u8 ((c.ip.b5.toNat : Int)), .int .u8 ((c.ip.b6.toNat : Int)), .int .u8 ((c.ip.b7.toNat : Int)), .int .u8 ((c.ip.b8.toNat : Int)), .int .u8 ((c.ip.b9.toNat : Int)), .int .u8 ((c.ip.b10.toNat : Int)), .int .u8 ((c.ip.b11.toNat : Int)), .int .u8 ((c.ip.b12.toNat : Int)), .int .u8 ((c.ip.b13.toNat : Int)), .int .u8 ((c.ip.b14.toNat : Int)), .int .u8 ((c.ip.b15.toNat : Int)), .int .i64 (c.port)]) (fun Wx hO => x_load (p := .pointer (some ⟨b1, 0, none⟩)) rfl (by kernel_rfl) (run_loadA (k := 18) (by kernel_rfl) (by kernel_rfl) (hO.blk (List.mem_cons_of_mem _ (List.mem_cons_of_mem _ List.mem_cons_self))) (by kernel_rfl) (by kernel_rfl))) hS ?_; clear hF; intro a hF
  refine A_one (i := 18) (listed' := #[true, true, true, true, true, true, true, true, true, true, true, true, true, true, true, true, true, true, true, true, false, false, false]) (by kernel_rfl) rfl (by kernel_rfl) ?_
  refine OpK.lc hF (cidr_Format c W11 (hG.own hO)) ?_
  clear hF; rintro _ W12 a ⟨rfl, hk⟩ hF
  replace hO := hO.call0 hk; clear hk
  refine ⟨hO.sub (.cons_cons _ (.cons_cons _ (.cons_cons _ (List.nil_sublist _)))), ?_⟩
  refine A_one (i := 20) (listed' := #[true, true, true, true, true, true, true, true, true, true, true, true, true, true, true, true, true, true, true, true, true, false, false]) (by kernel_rfl) rfl (by kernel_rfl) ?_
  refine OpK.lc hF (ref03_Format c W12) ?_
  clear hF; rintro _ W13 a ⟨rfl, hk⟩ hF
  replace hO := hO.call0 hk; clear hk
  refine ⟨hO.sub (.cons_cons _ (.cons_cons _ (.cons_cons _ (List.nil_sublist _)))), ?_⟩
  have hS := hO.sub (.cons_cons _ (.cons_cons _ (.cons_cons _ (List.nil_sublist _))))
  refine Tk 21 rfl hF (.bool false) (fun Wx _ => (x_bool (x := !(strEq (fmtCd c) (fmtCd c))) (notF (strEq_refl _)) (by kernel_rfl))) hS ?_; clear hF; intro a hF
  refine Tk 22 rfl hF (.bool false) (fun Wx _ => by kernel_rfl) hS ?_; clear hF; intro a hF
  refine A_done (by kernel_rfl) ?_
  refine hK10 _ _ ?_
  refine cond_f hF (by kernel_rfl) (by kernel_rfl) ?_
  refine wp_skip ?_
  refine hK9 _ _ ?_
  refine wp_seq_k fun K11 hK11 => ?_
  refine wp_seq_k fun K12 hK12 => ?_
  refine wp_region_lit ?_
  refine Vr hF (.agg #[.bool c.ip.six, .int .u8 ((c.ip.b0.toNat : Int)), .int .u8 ((c.ip.b1.toNat : Int)), .int .u8 ((c.ip.b2.toNat : Int)), .int .u8 ((c.ip.b3.toNat : Int)), .int .u8 ((c.ip.b4.toNat : Int)), .int .u8 ((c.ip.b5.toNat : Int)), .int .u8 ((c.ip.b6.toNat : Int)), .int .u8 ((c.ip.b7.toNat : Int)), .int .u8 ((c.ip.b8.toNat : Int)), .int .u8 ((c.ip.b9.toNat : Int)), .int .u8 ((c.ip.b10.toNat : Int)), .int .u8 ((c.ip.b11.toNat : Int)), .int .u8 ((c.ip.b12.toNat : Int)), .int .u8 ((c.ip.b13.toNat : Int)), .int .u8 ((c.ip.b14.toNat : Int)), .int .u8 ((c.ip.b15.toNat : Int)), .int .i64 (c.port)]) (x_load (p := .pointer (some ⟨b1, 0, none⟩)) rfl (by kernel_rfl) (run_loadA (k := 18) (by kernel_rfl) (by kernel_rfl) (hO.blk (List.mem_cons_of_mem _ (List.mem_cons_of_mem _ List.mem_cons_self))) (by kernel_rfl) (by kernel_rfl))) ?_; clear hF; intro a hF
  refine Lc hF (ref03_Right c W13) ?_
  clear hF; rintro _ W14 a ⟨rfl, hk⟩ hF
  replace hO := hO.call0 hk; clear hk
  refine Vp hF (.bool (!(rightCd c))) ?_; clear hF; intro a hF
  refine L_nil ?_
  refine hK12 _ _ ?_
  cases q2 : (rightCd c : Bool)
  ·
   replace hF := hF.know (d := 50) (v' := .bool true) (by kernel_rfl) (congrArg Value.bool (notT q2))
   refine cond_t hF (by kernel_rfl) (by kernel_rfl) ?_
   refine wp_seq_k fun K13 hK13 => ?_
   refine wp_region_lit ?_
   refine Vp hF (.bool true) ?_; clear hF; intro a hF
   refine L_nil ?_
   refine hK13 _ _ ?_
   refine wp_ret ?_
   refine then_ret ?_
   refine ret1 hF (v := .bool true) rfl (resT (by kernel_rfl)) (by refine ⟨?_, hO.nil⟩; first | rfl | (exfalso; simp_all; done) | (simp; done)) .ret (.inl rfl)
  ·
   replace hF := hF.know (d := 50) (v' := .bool false) (by kernel_rfl) (congrArg Value.bool (notF q2))
   refine cond_f hF (by kernel_rfl) (by kernel_rfl) ?_
   refine wp_skip ?_
   refine hK11 _ _ ?_
   refine wp_seq_k fun K14 hK14 => ?_
   refine wp_region_lit ?_
   refine Vr hF (.agg #[.bool c.ip.six, .int .u8 ((c.ip.b0.toNat : Int)), .int .u8 ((c.ip.b1.toNat : Int)), .int .u8 ((c.ip.b2.toNat : Int)), .int .u8 ((c.ip.b3.toNat : Int)), .int .u8 ((c.ip.b4.toNat : Int)), .int .u8 ((c.ip.b5.toNat : Int)), .int .u8 ((c.ip.b6.toNat : Int)), .int .u8 ((c.ip.b7.toNat : Int)), .int .u8 ((c.ip.b8.toNat : Int)), .int .u8 ((c.ip.b9.toNat : Int)), .int .u8 ((c.ip.b10.toNat : Int)), .int .u8 ((c.ip.b11.toNat : Int)), .int .u8 ((c.ip.b12.toNat : Int)), .int .u8 ((c.ip.b13.toNat : Int)), .int .u8 ((c.ip.b14.toNat : Int)), .int .u8 ((c.ip.b15.toNat : Int)), .int .i64 (c.port)]) (x_load (p := .pointer (some ⟨b1, 0, none⟩)) rfl (by kernel_rfl) (run_loadA (k := 18) (by kernel_rfl) (by kernel_rfl) (hO.blk (List.mem_cons_of_mem _ (List.mem_cons_of_mem _ List.mem_cons_self))) (by kernel_rfl) (by kernel_rfl))) ?_; clear hF; intro a hF
   refine Lc hF (cidr_Format c W14 (hG.own hO)) ?_
   clear hF; rintro _ W15 a ⟨rfl, hk⟩ hF
   replace hO := hO.call0 hk; clear hk
   refine Lc hF ((cidr_Parse I ea (fmtCd c) W15 (hG.own hO) (hE.own hO) h3 h0 h7 (by have := fmtCd_len c; omega)).mono fun v W' h => (⟨by rw [h.1, parse_fmtCd (by assumption)]; rfl, h.2⟩ : v = .tuple #[ptV c, .nilIface] ∧ Own W15 noX [] W')) ?_
   clear hF; rintro _ W16 a ⟨rfl, hk⟩ hF
   replace hO := hO.call0 hk; clear hk
   refine Vp hF (.tuple #[ptV c, .nilIface]) ?_; clear hF; intro a hF
   refine Vp hF (ptV c) ?_; clear hF; intro a hF
   refine Vp hF (.nilIface) ?_; clear hF; intro a hF
   refine L_new hF hO (by kernel_rfl) (by kernel_rfl) (vf := fun b => .pointer (some ⟨b, 0, none⟩)) (ob := .cells zPL03d 68) (by kernel_rfl) (by kernel_rfl) ?_
   clear hF hO; intro b4 W17 a hO hF
   obtain ⟨W18, hst, hO1⟩ := run_storeAt (P := Tryz.prog) (k := 18) (T := 68) (off := 0) (v := ptV c) (cs := zPL03d) (cs' := #[.bool c.ip.six, .int .u8 ((c.ip.b0.toNat : Int)), .int .u8 ((c.ip.b1.toNat : Int)), .int .u8 ((c.ip.b2.toNat : Int)), .int .u8 ((c.ip.b3.toNat : Int)), .int .u8 ((c.ip.b4.toNat : Int)), .int .u8 ((c.ip.b5.toNat : Int)), .int .u8 ((c.ip.b6.toNat : Int)), .int .u8 ((c.ip.b7.toNat : Int)), .int .u8 ((c.ip.b8.toNat : Int)), .int .u8 ((c.ip.b9.toNat : Int)), .int .u8 ((c.ip.b10.toNat : Int)), .int .u8 ((c.ip.b11.toNat : Int)), .int .u8 ((c.ip.b12.toNat : Int)), .int .u8 ((c.ip.b13.toNat : Int)), .int .u8 ((c.ip.b14.toNat : Int)), .int .u8 ((c.ip.b15.toNat : Int)), .int .i64 (c.port)]) hO (by kernel_rfl) (by kernel_rfl) (by kernel_rfl) (Nat.le_of_ble_eq_true (by kernel_rfl)) (by kernel_rfl) (.head _)
   refine L_skip hF (by kernel_rfl) (by kernel_rfl) (x_store (p := .pointer (some ⟨b4, 0, none⟩)) (v := ptV c) rfl (by kernel_rfl) (by kernel_rfl) hst) (by kernel_rfl) ?_
   clear hst hF; intro a hF; replace hO := hO1; clear hO1
   refine Vp hF (.nilIface) ?_; clear hF; intro a hF
   refine L_nil ?_
   refine hK14 _ _ ?_
   refine wp_seq_k fun K15 hK15 => ?_
   refine wp_region_lit ?_
   refine Vp hF (.nilIface) ?_; clear hF; intro a hF
   refine Vp hF (.bool true) ?_; clear hF; intro a hF
   refine Vp hF (.bool true) ?_; clear hF; intro a hF
   refine Vr hF (.agg #[.bool c.ip.six, .int .u8 ((c.ip.b0.toNat : Int)), .int .u8 ((c.ip.b1.toNat : Int)), .int .u8 ((c.ip.b2.toNat : Int)), .int .u8 ((c.ip.b3.toNat : Int)), .int .u8 ((c.ip.b4.toNat : Int)), .int .u8 ((c.ip.b5.toNat : Int)), .int .u8 ((c.ip.b6.toNat : Int)), .int .u8 ((c.ip.b7.toNat : Int)), .int .u8 ((c.ip.b8.toNat : Int)), .int .u8 ((c.ip.b9.toNat : Int)), .int .u8 ((c.ip.b10.toNat : Int)), .int .u8 ((c.ip.b11.toNat : Int)), .int .u8 ((c.ip.b12.toNat : Int)), .int .u8 ((c.ip.b13.toNat : Int)), .int .u8 ((c.ip.b14.toNat : Int)), .int .u8 ((c.ip.b15.toNat : Int)), .int .i64 (c.port)]) (x_load (p := .pointer (some ⟨b4, 0, none⟩)) rfl (by kernel_rfl) (run_loadA (k := 18) (by kernel_rfl) (by kernel_rfl) (hO.blk List.mem_cons_self) (by kernel_rfl) (by kernel_rfl))) ?_; clear hF; intro a hF
   refine Vr hF (.agg #[.bool c.ip.six, .int .u8 ((c.ip.b0.toNat : Int)), .int .u8 ((c.ip.b1.toNat : Int)), .int .u8 ((c.ip.b2.toNat : Int)), .int .u8 ((c.ip.b3.toNat : Int)), .int .u8 ((c.ip.b4.toNat : Int)), .int .u8 ((c.ip.b5.toNat : Int)), .int .u8 ((c.ip.b6.toNat : Int)), .int .u8 ((c.ip.b7.toNat : Int)), .int .u8 ((c.ip.b8.toNat : Int)), .int .u8 ((c.ip.b9.toNat : Int)), .int .u8 ((c.ip.b10.toNat : Int)), .int .u8 ((c.ip.b11.toNat : Int)), .int .u8 ((c.ip.b12.toNat : Int)), .int .u8 ((c.ip.b13.toNat : Int)), .int .u8 ((c.ip.b14.toNat : Int)), .int .u8 ((c.ip.b15.toNat : Int)), .int .i64 (c.port)]) (x_load (p := .pointer (some ⟨b1, 0, none⟩)) rfl (by kernel_rfl) (run_loadA (k := 18) (by kernel_rfl) (by kernel_rfl) (hO.blk (List.mem_cons_of_mem _ (List.mem_cons_of_mem _ (List.mem_cons_of_mem _ List.mem_cons_self)))) (by kernel_rfl) (by kernel_rfl))) ?_; clear hF; intro a hF
   refine Vr hF (.bool true) (x_bool (x := decide (c = c)) (decide_eq_true rfl) (x_eqCd (a := c) (b := c) rfl (by kernel_rfl) (by kernel_rfl))) ?_; clear hF; intro a hF
   refine Vp hF (.bool true) ?_; clear hF; intro a hF
   refine Vp hF (.bool true) ?_; clear hF; intro a hF
   refine L_nil ?_
   refine hK15 _ _ ?_
   refine wp_ret ?_
   refine ret1 hF (v := .bool true) rfl (resT (by kernel_rfl)) (by refine ⟨?_, hO.nil⟩; first | rfl | (exfalso; simp_all; done) | (simp; done)) .ret (.inl rfl)

set_option maxRecDepth 20000 in
theorem law03_CidrParses_i (I : List Nat) (ea : Nat → Addr) (s : ByteArray) (c : Pt) (i : Nat) (W : World) (hG : LibW W) (hE : Errs I ea W) (h3 : I.contains 3 = true) (h0 : I.contains 0 = true) (h7 : I.contains 7 = true) (hI : I = errIs) (hp : parseCd s = .error i) (hi : i < 18) : Ret Tryz.prog 9 #[.string s, ptV c] W fun v W' => v = .bool true ∧ Own W noX [] W' := by
 refine enter Tryz.func9 rfl (n := 64) rfl (by kernel_rfl) (E0 := [(1, ptV c), (0, .string s)]) (by kernel_rfl) ?_
 intro a hF; have hO := Own.start W noX
 refine wp_seq_k fun K1 hK1 => ?_
 refine wp_region_lit ?_
 refine L_new hF hO (by kernel_rfl) (by kernel_rfl) (vf := fun b => .pointer (some ⟨b, 0, none⟩)) (ob := .cells #[.bool c.ip.six, .int .u8 ((c.ip.b0.toNat : Int)), .int .u8 ((c.ip.b1.toNat : Int)), .int .u8 ((c.ip.b2.toNat : Int)), .int .u8 ((c.ip.b3.toNat : Int)), .int .u8 ((c.ip.b4.toNat : Int)), .int .u8 ((c.ip.b5.toNat : Int)), .int .u8 ((c.ip.b6.toNat : Int)), .int .u8 ((c.ip.b7.toNat : Int)), .int .u8 ((c.ip.b8.toNat : Int)), .int .u8 ((c.ip.b9.toNat : Int)), .int .u8 ((c.ip.b10.toNat : Int)), .int .u8 ((c.ip.b11.toNat : Int)), .int .u8 ((c.ip.b12.toNat : Int)), .int .u8 ((c.ip.b13.toNat : Int)), .int .u8 ((c.ip.b14.toNat : Int)), .int .u8 ((c.ip.b15.toNat : Int)), .int .i64 (c.port)] 68) (by kernel_rfl) (by kernel_rfl) ?_
 clear hF hO; intro b1 W1 a hO hF
 refine Vp hF (.bool false) ?_; clear hF; intro a hF
 refine L_nil ?_
 refine hK1 _ _ ?_
 refine wp_seq_k fun K2 hK2 => ?_
 refine wp_seq_k fun K3 hK3 => ?_
 refine wp_region_lit ?_
 refine Lc hF (law03_alive I ea W1 (hG.own hO) (hE.own hO) h3 h0 h7) ?_
 clear hF; rintro _ W2 a ⟨rfl, hk⟩ hF
 replace hO := hO.call0 hk; clear hk
 refine Vp hF (.bool false) ?_; clear hF; intro a hF
 refine L_nil ?_
 refine hK3 _ _ ?_
 refine cond_f hF (by kernel_rfl) (by kernel_rfl) ?_
 refine wp_skip ?_
 refine hK2 _ _ ?_
 refine wp_seq_k fun K4 hK4 => ?_
 refine wp_seq_k fun K5 hK5 => ?_
 refine wp_region_lit ?_
 refine Vp hF (.string s) ?_; clear hF; intro a hF
 refine Vp hF (.int .i64 ((s.size : Int))) ?_; clear hF; intro a hF
 refine Vp hF (.bool (decide ((s.size : Int) > 200))) ?_; clear hF; intro a hF
 refine L_nil ?_
 refine hK5 _ _ ?_
 by_cases q1 : (s.size : Int) > 200
 ·
  replace hF := hF.know (d := 14) (v' := .bool true) (by kernel_rfl) (congrArg Value.bool (decide_eq_true q1))
  refine cond_t hF (by kernel_rfl) (by kernel_rfl) ?_
  refine wp_seq_k fun K6 hK6 => ?_
  refine wp_region_lit ?_
  refine Vp hF (.bool true) ?_; clear hF; intro a hF
  refine L_nil ?_
  refine hK6 _ _ ?_
  refine wp_ret ?_
  refine then_ret ?_
  refine ret1 hF (v := .bool true) rfl (resT (by kernel_rfl)) (by refine ⟨?_, hO.nil⟩; first | rfl | (exfalso; simp_all; done) | (simp; done)) .ret (.inl rfl)
 ·
  replace hF := hF.know (d := 14) (v' := .bool false) (by kernel_rfl) (congrArg Value.bool (decide_eq_false q1))
  refine cond_f hF (by kernel_rfl) (by kernel_rfl) ?_
  refine wp_skip ?_
  refine hK4 _ _ ?_
  refine wp_seq_k fun K7 hK7 => ?_
  refine wp_region_lit ?_
  refine Vp hF (.string s) ?_; clear hF; intro a hF
  refine Lc hF ((cidr_Parse I ea s W2 (hG.own hO) (hE.own hO) h3 h0 h7 (by omega)).mono fun v W' h => (⟨by rw [h.1, hp]; rfl, h.2⟩ : v = .tuple #[ptV noPt, errV ea i] ∧ Own W2 noX [] W')) ?_
  clear hF; rintro _ W3 a ⟨rfl, hk⟩ hF
  replace hO := hO.call0 hk; clear hk
  refine Vp hF (.tuple #[ptV noPt, errV ea i]) ?_; clear hF; intro a hF
  refine Vp hF (ptV noPt) ?_; clear hF; intro a hF
  refine Vp hF (errV ea i) ?_; clear hF; intro a hF
  refine L_new hF hO (by kernel_rfl) (by kernel_rfl) (vf := fun b => .pointer (some ⟨b, 0, none⟩)) (ob := .cells zPL03d 68) (by kernel_rfl) (by kernel_rfl) ?_
  clear hF hO; intro b2 W4 a hO hF
  obtain ⟨W5, hst, hO1⟩ := run_storeAt (P := Tryz.prog) (k := 18) (T := 68) (off := 0) (v := ptV noPt) (cs := zPL03d) (cs' := #[.bool noPt.ip.six, .int .u8 ((noPt.ip.b0.toNat : Int)), .int .u8 ((noPt.ip.b1.toNat : Int)), .int .u8 ((noPt.ip.b2.toNat : Int)), .int .u8 ((noPt.ip.b3.toNat : Int)), .int .u8 ((noPt.ip.b4.toNat : Int)), .int .u8 ((noPt.ip.b5.toNat : Int)), .int .u8 ((noPt.ip.b6.toNat : Int)), .int .u8 ((noPt.ip.b7.toNat : Int)), .int .u8 ((noPt.ip.b8.toNat : Int)), .int .u8 ((noPt.ip.b9.toNat : Int)), .int .u8 ((noPt.ip.b10.toNat : Int)), .int .u8 ((noPt.ip.b11.toNat : Int)), .int .u8 ((noPt.ip.b12.toNat : Int)), .int .u8 ((noPt.ip.b13.toNat : Int)), .int .u8 ((noPt.ip.b14.toNat : Int)), .int .u8 ((noPt.ip.b15.toNat : Int)), .int .i64 (noPt.port)]) hO (by kernel_rfl) (by kernel_rfl) (by kernel_rfl) (Nat.le_of_ble_eq_true (by kernel_rfl)) (by kernel_rfl) (.head _)
  refine L_skip hF (by kernel_rfl) (by kernel_rfl) (x_store (p := .pointer (some ⟨b2, 0, none⟩)) (v := ptV noPt) rfl (by kernel_rfl) (by kernel_rfl) hst) (by kernel_rfl) ?_
  clear hst hF; intro a hF; replace hO := hO1; clear hO1
  refine Vp hF (errV ea i) ?_; clear hF; intro a hF
  refine L_nil ?_
  refine hK7 _ _ ?_
  refine wp_seq_k fun K8 hK8 => ?_
  refine wp_region_lit ?_
  refine Vp hF (.string s) ?_; clear hF; intro a hF
  refine Lc hF ((ref03_Parse s W5 (by omega)).mono fun v W' h => (⟨by rw [h.1, hp]; rfl, h.2⟩ : v = .tuple #[ptV noPt, .int .i64 ((i : Int) + 1)] ∧ Own W5 noX [] W')) ?_
  clear hF; rintro _ W6 a ⟨rfl, hk⟩ hF
  replace hO := hO.call0 hk; clear hk
  refine Vp hF (.tuple #[ptV noPt, .int .i64 ((i : Int) + 1)]) ?_; clear hF; intro a hF
  refine Vp hF (ptV noPt) ?_; clear hF; intro a hF
  refine Vp hF (.int .i64 ((i : Int) + 1)) ?_; clear hF; intro a hF
  refine L_new hF hO (by kernel_rfl) (by kernel_rfl) (vf := fun b => .pointer (some ⟨b, 0, none⟩)) (ob := .cells zPL03d 68) (by kernel_rfl) (by kernel_rfl) ?_
  clear hF hO; intro b3 W7 a hO hF
  obtain ⟨W8, hst, hO1⟩ := run_storeAt (P := Tryz.prog) (k := 18) (T := 68) (off := 0) (v := ptV noPt) (cs := zPL03d) (cs' := #[.bool noPt.ip.six, .int .u8 ((noPt.ip.b0.toNat : Int)), .int .u8 ((noPt.ip.b1.toNat : Int)), .int .u8 ((noPt.ip.b2.toNat : Int)), .int .u8 ((noPt.ip.b3.toNat : Int)), .int .u8 ((noPt.ip.b4.toNat : Int)), .int .u8 ((noPt.ip.b5.toNat : Int)), .int .u8 ((noPt.ip.b6.toNat : Int)), .int .u8 ((noPt.ip.b7.toNat : Int)), .int .u8 ((noPt.ip.b8.toNat : Int)), .int .u8 ((noPt.ip.b9.toNat : Int)), .int .u8 ((noPt.ip.b10.toNat : Int)), .int .u8 ((noPt.ip.b11.toNat : Int)), .int .u8 ((noPt.ip.b12.toNat : Int)), .int .u8 ((noPt.ip.b13.toNat : Int)), .int .u8 ((noPt.ip.b14.toNat : Int)), .int .u8 ((noPt.ip.b15.toNat : Int)), .int .i64 (noPt.port)]) hO (by kernel_rfl) (by kernel_rfl) (by kernel_rfl) (Nat.le_of_ble_eq_true (by kernel_rfl)) (by kernel_rfl) (.head _)
  refine L_skip hF (by kernel_rfl) (by kernel_rfl) (x_store (p := .pointer (some ⟨b3, 0, none⟩)) (v := ptV noPt) rfl (by kernel_rfl) (by kernel_rfl) hst) (by kernel_rfl) ?_
  clear hst hF; intro a hF; replace hO := hO1; clear hO1
  refine Vp hF (.int .i64 ((i : Int) + 1)) ?_; clear hF; intro a hF
  refine L_nil ?_
  refine hK8 _ _ ?_
  refine wp_seq_k fun K9 hK9 => ?_
  refine wp_seq_k fun K10 hK10 => ?_
  refine A_start (fun Wx => Own W noX [.blk b3 (.cells #[.bool noPt.ip.six, .int .u8 ((noPt.ip.b0.toNat : Int)), .int .u8 ((noPt.ip.b1.toNat : Int)), .int .u8 ((noPt.ip.b2.toNat : Int)), .int .u8 ((noPt.ip.b3.toNat : Int)), .int .u8 ((noPt.ip.b4.toNat : Int)), .int .u8 ((noPt.ip.b5.toNat : Int)), .int .u8 ((noPt.ip.b6.toNat : Int)), .int .u8 ((noPt.ip.b7.toNat : Int)), .int .u8 ((noPt.ip.b8.toNat : Int)), .int .u8 ((noPt.ip.b9.toNat : Int)), .int .u8 ((noPt.ip.b10.toNat : Int)), .int .u8 ((noPt.ip.b11.toNat : Int)), .int .u8 ((noPt.ip.b12.toNat : Int)), .int .u8 ((noPt.ip.b13.toNat : Int)), .int .u8 ((noPt.ip.b14.toNat : Int)), .int .u8 ((noPt.ip.b15.toNat : Int)), .int .i64 (noPt.port)] 68 (0, 0)), .blk b2 (.cells #[.bool noPt.ip.six, .int .u8 ((noPt.ip.b0.toNat : Int)), .int .u8 ((noPt.ip.b1.toNat : Int)), .int .u8 ((noPt.ip.b2.toNat : Int)), .int .u8 ((noPt.ip.b3.toNat : Int)), .int .u8 ((noPt.ip.b4.toNat : Int)), .int .u8 ((noPt.ip.b5.toNat : Int)), .int .u8 ((noPt.ip.b6.toNat : Int)), .int .u8 ((noPt.ip.b7.toNat : Int)), .int .u8 ((noPt.ip.b8.toNat : Int)), .int .u8 ((noPt.ip.b9.toNat : Int)), .int .u8 ((noPt.ip.b10.toNat : Int)), .int .u8 ((noPt.ip.b11.toNat : Int)), .int .u8 ((noPt.ip.b12.toNat : Int)), .int .u8 ((noPt.ip.b13.toNat : Int)), .int .u8 ((noPt.ip.b14.toNat : Int)), .int .u8 ((noPt.ip.b15.toNat : Int)), .int .i64 (noPt.port)] 68 (0, 0)), .blk b1 (.cells #[.bool c.ip.six, .int .u8 ((c.ip.b0.toNat : Int)), .int .u8 ((c.ip.b1.toNat : Int)), .int .u8 ((c.ip.b2.toNat : Int)), .int .u8 ((c.ip.b3.toNat : Int)), .int .u8 ((c.ip.b4.toNat : Int)), .int .u8 ((c.ip.b5.toNat : Int)), .int .u8 ((c.ip.b6.toNat : Int)), .int .u8 ((c.ip.b7.toNat : Int)), .int .u8 ((c.ip.b8.toNat : Int)), .int .u8 ((c.ip.b9.toNat : Int)), .int .u8 ((c.ip.b10.toNat : Int)), .int .u8 ((c.ip.b11.toNat : Int)), .int .u8 ((c.ip.b12.toNat : Int)), .int .u8 ((c.ip.b13.toNat : Int)), .int .u8 ((c.ip.b14.toNat : Int)), .int .u8 ((c.ip.b15.toNat : Int)), .int .i64 (c.port)] 68 (0, 0))] Wx) (by kernel_rfl) ?_
  replace hO := hO.drewN 1
  generalize hWd : ({ W8 with drawn := W8.drawn + 1 } : World) = W8_d at hO ⊢; clear hWd
  have hS := hO.sub (.cons_cons _ (.cons_cons _ (.cons_cons _ (List.nil_sublist _))))
  refine Tk 0 rfl hF (.agg #[.bool noPt.ip.six, .int .u8 ((noPt.ip.b0.toNat : Int)), .int .u8 ((noPt.ip.b1.toNat : Int)), .int .u8 ((noPt.ip.b2.toNat : Int)), .int .u8 ((noPt.ip.b3.toNat : Int)), .int .u8 ((noPt.ip.b4.toNat : Int)), .int .u8 ((noPt.ip.b5.toNat : Int)), .int .u8 ((noPt.ip.b6.toNat : Int)), .int .u8 ((noPt.ip.b7.toNat : Int)), .int .u8 ((noPt.ip.b8.toNat : Int)), .int .u8 ((noPt.ip.b9.toNat : Int)), .int .u8 ((noPt.ip.b10.toNat : Int)), .int .u8 ((noPt.ip.b11.toNat : Int)), .int .u8 ((noPt.ip.b12.toNat : Int)), .int .u8 ((noPt.ip.b13.toNat : Int)), .int .u8 ((noPt.ip.b14.toNat : Int)), .int .u8 ((noPt.ip.b15.toNat : Int)), .int .i64 (noPt.port)]) (fun Wx hO => x_load (p := .pointer (some ⟨b2, 0, none⟩)) rfl (by kernel_rfl) (run_loadA (k := 18) (by kernel_rfl) (by kernel_rfl) (hO.blk (List.mem_cons_of_mem _ List.mem_cons_self)) (by kernel_rfl) (by kernel_rfl))) hS ?_; clear hF; intro a hF
  refine Tk 1 rfl hF (.agg #[.bool noPt.ip.six, .int .u8 ((noPt.ip.b0.toNat : Int)), .int .u8 ((noPt.ip.b1.toNat : Int)), .int .u8 ((noPt.ip.b2.toNat : Int)), .int .u8 ((noPt.ip.b3.toNat : Int)), .int .u8 ((noPt.ip.b4.toNat : Int)), .int .u8 ((noPt.ip.b5.toNat : Int)), .int .u8 ((noPt.ip.b6.toNat : Int)), .int .u8 ((noPt.ip.b7.toNat : Int)), .int .u8 ((noPt.ip.b8.toNat : Int)), .int .u8 ((noPt.ip.b9.toNat : Int)), .int .u8 ((noPt.ip.b10.toNat : Int)), .int .u8 ((noPt.ip.b11.toNat : Int)), .int .u8 ((noPt.ip.b12.toNat : Int)), .int .u8 ((noPt.ip.b13.toNat : Int)), .int .u8 ((noPt.ip.b14.toNat : Int)), .int .u8 ((noPt.ip.b15.toNat : Int)), .int .i64 (noPt.port)]) (fun Wx hO => x_load (p := .pointer (some ⟨b3, 0, none⟩)) rfl (by kernel_rfl) (run_loadA (k := 18) (by kernel_rfl) (by kernel_rfl) (hO.blk List.mem_cons_self) (by kernel_rfl) (by kernel_rfl))) hS ?_; clear hF; intro a hF
  refine Tk 2 rfl hF (.bool false) (fun Wx _ => (x_bool (x := !(decide (noPt = noPt))) (notF (decide_eq_true rfl)) (x_neCd (a := noPt) (b := noPt) rfl (by kernel_rfl) (by kernel_rfl)))) hS ?_; clear hF; intro a hF
  refine Tk 3 rfl hF (.bool false) (fun Wx _ => by kernel_rfl) hS ?_; clear hF; intro a hF
  refine Tk 4 rfl hF (errV ea i) (fun Wx _ => by kernel_rfl) hS ?_; clear hF; intro a hF
  refine Tk 6 rfl hF (.int .i64 ((i : Int) + 1)) (fun Wx _ => by kernel_rfl) hS ?_; clear hF; intro a hF
  refine A_one (i := 5) (listed' := #[true, true, true, true, true, true, true, false, false, false, false, false, false, false, false, false, false, false, false, false, false, false, false]) (by kernel_rfl) rfl (by kernel_rfl) ?_
  refine OpK.lc hF (num_err ea i W8_d (hI ▸ hE.own hO) hi) ?_
  clear hF; rintro _ W9 a ⟨rfl, hk⟩ hF
  replace hO := hO.call0 hk; clear hk
  refine ⟨hO.sub (.cons_cons _ (.cons_cons _ (.cons_cons _ (List.nil_sublist _)))), ?_⟩
  have hS := hO.sub (.cons_cons _ (.cons_cons _ (.cons_cons _ (List.nil_sublist _))))
  refine Tk 7 rfl hF (.bool false) (fun Wx _ => (x_bool (x := !(((i : Int) + 1) == ((i : Int) + 1))) (notF (beq_self_eq_true _)) (by kernel_rfl))) hS ?_; clear hF; intro a hF
  refine Tk 8 rfl hF (.bool false) (fun Wx _ => by kernel_rfl) hS ?_; clear hF; intro a hF
  refine Tk 9 rfl hF (.bool false) (fun Wx _ => by kernel_rfl) hS ?_; clear hF; intro a hF
  refine Tk 10 rfl hF (.agg #[.bool c.ip.six, .int .u8 ((c.ip.b0.toNat : Int)), .int .u8 ((c.ip.b1.toNat : Int)), .int .u8 ((c.ip.b2.toNat : Int)), .int .u8 ((c.ip.b3.toNat : Int)), .int .u8 ((c.ip.b4.toNat : Int)), .int .u8 ((c.ip.b5.toNat : Int)), .int .u8 ((c.ip.b6.toNat : Int)), .int .u8 ((c.ip.b7.toNat : Int)), .int .u8 ((c.ip.b8.toNat : Int)), .int .u8 ((c.ip.b9.toNat : Int)), .int .u8 ((c.ip.b10.toNat : Int)), .int .u8 ((c.ip.b11.toNat : Int)), .int .u8 ((c.ip.b12.toNat : Int)), .int .u8 ((c.ip.b13.toNat : Int)), .int .u8 ((c.ip.b14.toNat : Int)), .int .u8 ((c.ip.b15.toNat : Int)), .int .i64 (c.port)]) (fun Wx hO => x_load (p := .pointer (some ⟨b1, 0, none⟩)) rfl (by kernel_rfl) (run_loadA (k := 18) (by kernel_rfl) (by kernel_rfl) (hO.blk (List.mem_cons_of_mem _ (List.mem_cons_of_mem _ List.mem_cons_self))) (by kernel_rfl) (by kernel_rfl))) hS ?_; clear hF; intro a hF
  refine Tk 12 rfl hF (.agg #[.bool c.ip.six, .int .u8 ((c.ip.b0.toNat : Int)), .int .u8 ((c.ip.b1.toNat : Int)), .int .u8 ((c.ip.b2.toNat : Int)), .int .u8 ((c.ip.b3.toNat : Int)), .int .u8 ((c.ip.b4.toNat : Int)), .int .u8 ((c.ip.b5.toNat : Int)), .int .u8 ((c.ip.b6.toNat : Int)), .int .u8 ((c.ip.b7.toNat : Int)), .int .u8 ((c.ip.b8.toNat : Int)), .int .u8 ((c.ip.b9.toNat : Int)), .int .u8 ((c.ip.b10.toNat : Int)), .int .u8 ((c.ip.b11.toNat : Int)), .int .u8 ((c.ip.b12.toNat : Int)), .int .u8 ((c.ip.b13.toNat : Int)), .int .u8 ((c.ip.b14.toNat : Int)), .int .u8 ((c.ip.b15.toNat : Int)), .int .i64 (c.port)]) (fun Wx hO => x_load (p := .pointer (some ⟨b1, 0, none⟩)) rfl (by kernel_rfl) (run_loadA (k := 18) (by kernel_rfl) (by kernel_rfl) (hO.blk (List.mem_cons_of_mem _ (List.mem_cons_of_mem _ List.mem_cons_self))) (by kernel_rfl) (by kernel_rfl))) hS ?_; clear hF; intro a hF
  refine A_one (i := 11) (listed' := #[true, true, true, true, true, true, true, true, true, true, true, true, true, false, false, false, false, false, false, false, false, false, false]) (by kernel_rfl) rfl (by kernel_rfl) ?_
  refine OpK.lc hF (cidr_Right c W9) ?_
  clear hF; rintro _ W10 a ⟨rfl, hk⟩ hF
  replace hO := hO.call0 hk; clear hk
  refine ⟨hO.sub (.cons_cons _ (.cons_cons _ (.cons_cons _ (List.nil_sublist _)))), ?_⟩
  refine A_one (i := 13) (listed' := #[true, true, true, true, true, true, true, true, true, true, true, true, true, true, false, false, false, false, false, false, false, false, false]) (by kernel_rfl) rfl (by kernel_rfl) ?_
  refine OpK.lc hF (ref03_Right c W10) ?_
  clear hF; rintro _ W11 a ⟨rfl, hk⟩ hF
  replace hO := hO.call0 hk; clear hk
  refine ⟨hO.sub (.cons_cons _ (.cons_cons _ (.cons_cons _ (List.nil_sublist _)))), ?_⟩
  have hS := hO.sub (.cons_cons _ (.cons_cons _ (.cons_cons _ (List.nil_sublist _))))
  refine Tk 14 rfl hF (.bool false) (fun Wx _ => (x_bool (x := !((rightCd c) == (rightCd c))) (notF (beq_self_eq_true _)) (by kernel_rfl))) hS ?_; clear hF; intro a hF
  refine Tk 15 rfl hF (.bool false) (fun Wx _ => by kernel_rfl) hS ?_; clear hF; intro a hF
  refine Tk 16 rfl hF (.bool false) (fun Wx _ => by kernel_rfl) hS ?_; clear hF; intro a hF
  refine Tk 17 rfl hF (.agg #[.bool c.ip.six, .int .u8 ((c.ip.b0.toNat : Int)), .int .u8 ((c.ip.b1.toNat : Int)), .int .u8 ((c.ip.b2.toNat : Int)), .int .u8 ((c.ip.b3.toNat : Int)), .int .u8 ((c.ip.b4.toNat : Int)), .int .u8 ((c.ip.b5.toNat : Int)), .int .u8 ((c.ip.b6.toNat : Int)), .int .u8 ((c.ip.b7.toNat : Int)), .int .u8 ((c.ip.b8.toNat : Int)), .int .u8 ((c.ip.b9.toNat : Int)), .int .u8 ((c.ip.b10.toNat : Int)), .int .u8 ((c.ip.b11.toNat : Int)), .int .u8 ((c.ip.b12.toNat : Int)), .int .u8 ((c.ip.b13.toNat : Int)), .int .u8 ((c.ip.b14.toNat : Int)), .int .u8 ((c.ip.b15.toNat : Int)), .int .i64 (c.port)]) (fun Wx hO => x_load (p := .pointer (some ⟨b1, 0, none⟩)) rfl (by kernel_rfl) (run_loadA (k := 18) (by kernel_rfl) (by kernel_rfl) (hO.blk (List.mem_cons_of_mem _ (List.mem_cons_of_mem _ List.mem_cons_self))) (by kernel_rfl) (by kernel_rfl))) hS ?_; clear hF; intro a hF
  refine Tk 19 rfl hF (.agg #[.bool c.ip.six, .int .u8 ((c.ip.b0.toNat : Int)), .int .u8 ((c.ip.b1.toNat : Int)), .int .u8 ((c.ip.b2.toNat : Int)), .int .u8 ((c.ip.b3.toNat : Int)), .int .u8 ((c.ip.b4.toNat : Int)), .int .u8 ((c.ip.b5.toNat : Int)), .int .u8 ((c.ip.b6.toNat : Int)), .int .u8 ((c.ip.b7.toNat : Int)), .int .u8 ((c.ip.b8.toNat : Int)), .int .u8 ((c.ip.b9.toNat : Int)), .int .u8 ((c.ip.b10.toNat : Int)), .int .u8 ((c.ip.b11.toNat : Int)), .int .u8 ((c.ip.b12.toNat : Int)), .int .u8 ((c.ip.b13.toNat : Int)), .int .u8 ((c.ip.b14.toNat : Int)), .int .u8 ((c.ip.b15.toNat : Int)), .int .i64 (c.port)]) (fun Wx hO => x_load (p := .pointer (some ⟨b1, 0, none⟩)) rfl (by kernel_rfl) (run_loadA (k := 18) (by kernel_rfl) (by kernel_rfl) (hO.blk (List.mem_cons_of_mem _ (List.mem_cons_of_mem _ List.mem_cons_self))) (by kernel_rfl) (by kernel_rfl))) hS ?_; clear hF; intro a hF
  refine A_one (i := 18) (listed' := #[true, true, true, true, true, true, true, true, true, true, true, true, true, true, true, true, true, true, true, true, false, false, false]) (by kernel_rfl) rfl (by kernel_rfl) ?_
  refine OpK.lc hF (cidr_Format c W11 (hG.own hO)) ?_
  clear hF; rintro _ W12 a ⟨rfl, hk⟩ hF
  replace hO := hO.call0 hk; clear hk
  refine ⟨hO.sub (.cons_cons _ (.cons_cons _ (.cons_cons _ (List.nil_sublist _)))), ?_⟩
  refine A_one (i := 20) (listed' := #[true, true, true, true, true, true, true, true, true, true, true, true, true, true, true, true, true, true, true, true, true, false, false]) (by kernel_rfl) rfl (by kernel_rfl) ?_
  refine OpK.lc hF (ref03_Format c W12) ?_
  clear hF; rintro _ W13 a ⟨rfl, hk⟩ hF
  replace hO := hO.call0 hk; clear hk
  refine ⟨hO.sub (.cons_cons _ (.cons_cons _ (.cons_cons _ (List.nil_sublist _)))), ?_⟩
  have hS := hO.sub (.cons_cons _ (.cons_cons _ (.cons_cons _ (List.nil_sublist _))))
  refine Tk 21 rfl hF (.bool false) (fun Wx _ => (x_bool (x := !(strEq (fmtCd c) (fmtCd c))) (notF (strEq_refl _)) (by kernel_rfl))) hS ?_; clear hF; intro a hF
  refine Tk 22 rfl hF (.bool false) (fun Wx _ => by kernel_rfl) hS ?_; clear hF; intro a hF
  refine A_done (by kernel_rfl) ?_
  refine hK10 _ _ ?_
  refine cond_f hF (by kernel_rfl) (by kernel_rfl) ?_
  refine wp_skip ?_
  refine hK9 _ _ ?_
  refine wp_seq_k fun K11 hK11 => ?_
  refine wp_seq_k fun K12 hK12 => ?_
  refine wp_region_lit ?_
  refine Vr hF (.agg #[.bool c.ip.six, .int .u8 ((c.ip.b0.toNat : Int)), .int .u8 ((c.ip.b1.toNat : Int)), .int .u8 ((c.ip.b2.toNat : Int)), .int .u8 ((c.ip.b3.toNat : Int)), .int .u8 ((c.ip.b4.toNat : Int)), .int .u8 ((c.ip.b5.toNat : Int)), .int .u8 ((c.ip.b6.toNat : Int)), .int .u8 ((c.ip.b7.toNat : Int)), .int .u8 ((c.ip.b8.toNat : Int)), .int .u8 ((c.ip.b9.toNat : Int)), .int .u8 ((c.ip.b10.toNat : Int)), .int .u8 ((c.ip.b11.toNat : Int)), .int .u8 ((c.ip.b12.toNat : Int)), .int .u8 ((c.ip.b13.toNat : Int)), .int .u8 ((c.ip.b14.toNat : Int)), .int .u8 ((c.ip.b15.toNat : Int)), .int .i64 (c.port)]) (x_load (p := .pointer (some ⟨b1, 0, none⟩)) rfl (by kernel_rfl) (run_loadA (k := 18) (by kernel_rfl) (by kernel_rfl) (hO.blk (List.mem_cons_of_mem _ (List.mem_cons_of_mem _ List.mem_cons_self))) (by kernel_rfl) (by kernel_rfl))) ?_; clear hF; intro a hF
  refine Lc hF (ref03_Right c W13) ?_
  clear hF; rintro _ W14 a ⟨rfl, hk⟩ hF
  replace hO := hO.call0 hk; clear hk
  refine Vp hF (.bool (!(rightCd c))) ?_; clear hF; intro a hF
  refine L_nil ?_
  refine hK12 _ _ ?_
  cases q2 : (rightCd c : Bool)
  ·
   replace hF := hF.know (d := 50) (v' := .bool true) (by kernel_rfl) (congrArg Value.bool (notT q2))
   refine cond_t hF (by kernel_rfl) (by kernel_rfl) ?_
   refine wp_seq_k fun K13 hK13 => ?_
   refine wp_region_lit ?_
   refine Vp hF (.bool true) ?_; clear hF; intro a hF
   refine L_nil ?_
   refine hK13 _ _ ?_
   refine wp_ret ?_
   refine then_ret ?_
   refine ret1 hF (v := .bool true) rfl (resT (by kernel_rfl)) (by refine ⟨?_, hO.nil⟩; first | rfl | (exfalso; simp_all; done) | (simp; done)) .ret (.inl rfl)
  ·
   replace hF := hF.know (d := 50) (v' := .bool false) (by kernel_rfl) (congrArg Value.bool (notF q2))
   refine cond_f hF (by kernel_rfl) (by kernel_rfl) ?_
   refine wp_skip ?_
   refine hK11 _ _ ?_
   refine wp_seq_k fun K14 hK14 => ?_
   refine wp_region_lit ?_
   refine Vr hF (.agg #[.bool c.ip.six, .int .u8 ((c.ip.b0.toNat : Int)), .int .u8 ((c.ip.b1.toNat : Int)), .int .u8 ((c.ip.b2.toNat : Int)), .int .u8 ((c.ip.b3.toNat : Int)), .int .u8 ((c.ip.b4.toNat : Int)), .int .u8 ((c.ip.b5.toNat : Int)), .int .u8 ((c.ip.b6.toNat : Int)), .int .u8 ((c.ip.b7.toNat : Int)), .int .u8 ((c.ip.b8.toNat : Int)), .int .u8 ((c.ip.b9.toNat : Int)), .int .u8 ((c.ip.b10.toNat : Int)), .int .u8 ((c.ip.b11.toNat : Int)), .int .u8 ((c.ip.b12.toNat : Int)), .int .u8 ((c.ip.b13.toNat : Int)), .int .u8 ((c.ip.b14.toNat : Int)), .int .u8 ((c.ip.b15.toNat : Int)), .int .i64 (c.port)]) (x_load (p := .pointer (some ⟨b1, 0, none⟩)) rfl (by kernel_rfl) (run_loadA (k := 18) (by kernel_rfl) (by kernel_rfl) (hO.blk (List.mem_cons_of_mem _ (List.mem_cons_of_mem _ List.mem_cons_self))) (by kernel_rfl) (by kernel_rfl))) ?_; clear hF; intro a hF
   refine Lc hF (cidr_Format c W14 (hG.own hO)) ?_
   clear hF; rintro _ W15 a ⟨rfl, hk⟩ hF
   replace hO := hO.call0 hk; clear hk
   refine Lc hF ((cidr_Parse I ea (fmtCd c) W15 (hG.own hO) (hE.own hO) h3 h0 h7 (by have := fmtCd_len c; omega)).mono fun v W' h => (⟨by rw [h.1, parse_fmtCd (by assumption)]; rfl, h.2⟩ : v = .tuple #[ptV c, .nilIface] ∧ Own W15 noX [] W')) ?_
   clear hF; rintro _ W16 a ⟨rfl, hk⟩ hF
   replace hO := hO.call0 hk; clear hk
   refine Vp hF (.tuple #[ptV c, .nilIface]) ?_; clear hF; intro a hF
   refine Vp hF (ptV c) ?_; clear hF; intro a hF
   refine Vp hF (.nilIface) ?_; clear hF; intro a hF
   refine L_new hF hO (by kernel_rfl) (by kernel_rfl) (vf := fun b => .pointer (some ⟨b, 0, none⟩)) (ob := .cells zPL03d 68) (by kernel_rfl) (by kernel_rfl) ?_
   clear hF hO; intro b4 W17 a hO hF
   obtain ⟨W18, hst, hO1⟩ := run_storeAt (P := Tryz.prog) (k := 18) (T := 68) (off := 0) (v := ptV c) (cs := zPL03d) (cs' := #[.bool c.ip.six, .int .u8 ((c.ip.b0.toNat : Int)), .int .u8 ((c.ip.b1.toNat : Int)), .int .u8 ((c.ip.b2.toNat : Int)), .int .u8 ((c.ip.b3.toNat : Int)), .int .u8 ((c.ip.b4.toNat : Int)), .int .u8 ((c.ip.b5.toNat : Int)), .int .u8 ((c.ip.b6.toNat : Int)), .int .u8 ((c.ip.b7.toNat : Int)), .int .u8 ((c.ip.b8.toNat : Int)), .int .u8 ((c.ip.b9.toNat : Int)), .int .u8 ((c.ip.b10.toNat : Int)), .int .u8 ((c.ip.b11.toNat : Int)), .int .u8 ((c.ip.b12.toNat : Int)), .int .u8 ((c.ip.b13.toNat : Int)), .int .u8 ((c.ip.b14.toNat : Int)), .int .u8 ((c.ip.b15.toNat : Int)), .int .i64 (c.port)]) hO (by kernel_rfl) (by kernel_rfl) (by kernel_rfl) (Nat.le_of_ble_eq_true (by kernel_rfl)) (by kernel_rfl) (.head _)
   refine L_skip hF (by kernel_rfl) (by kernel_rfl) (x_store (p := .pointer (some ⟨b4, 0, none⟩)) (v := ptV c) rfl (by kernel_rfl) (by kernel_rfl) hst) (by kernel_rfl) ?_
   clear hst hF; intro a hF; replace hO := hO1; clear hO1
   refine Vp hF (.nilIface) ?_; clear hF; intro a hF
   refine L_nil ?_
   refine hK14 _ _ ?_
   refine wp_seq_k fun K15 hK15 => ?_
   refine wp_region_lit ?_
   refine Vp hF (.nilIface) ?_; clear hF; intro a hF
   refine Vp hF (.bool true) ?_; clear hF; intro a hF
   refine Vp hF (.bool true) ?_; clear hF; intro a hF
   refine Vr hF (.agg #[.bool c.ip.six, .int .u8 ((c.ip.b0.toNat : Int)), .int .u8 ((c.ip.b1.toNat : Int)), .int .u8 ((c.ip.b2.toNat : Int)), .int .u8 ((c.ip.b3.toNat : Int)), .int .u8 ((c.ip.b4.toNat : Int)), .int .u8 ((c.ip.b5.toNat : Int)), .int .u8 ((c.ip.b6.toNat : Int)), .int .u8 ((c.ip.b7.toNat : Int)), .int .u8 ((c.ip.b8.toNat : Int)), .int .u8 ((c.ip.b9.toNat : Int)), .int .u8 ((c.ip.b10.toNat : Int)), .int .u8 ((c.ip.b11.toNat : Int)), .int .u8 ((c.ip.b12.toNat : Int)), .int .u8 ((c.ip.b13.toNat : Int)), .int .u8 ((c.ip.b14.toNat : Int)), .int .u8 ((c.ip.b15.toNat : Int)), .int .i64 (c.port)]) (x_load (p := .pointer (some ⟨b4, 0, none⟩)) rfl (by kernel_rfl) (run_loadA (k := 18) (by kernel_rfl) (by kernel_rfl) (hO.blk List.mem_cons_self) (by kernel_rfl) (by kernel_rfl))) ?_; clear hF; intro a hF
   refine Vr hF (.agg #[.bool c.ip.six, .int .u8 ((c.ip.b0.toNat : Int)), .int .u8 ((c.ip.b1.toNat : Int)), .int .u8 ((c.ip.b2.toNat : Int)), .int .u8 ((c.ip.b3.toNat : Int)), .int .u8 ((c.ip.b4.toNat : Int)), .int .u8 ((c.ip.b5.toNat : Int)), .int .u8 ((c.ip.b6.toNat : Int)), .int .u8 ((c.ip.b7.toNat : Int)), .int .u8 ((c.ip.b8.toNat : Int)), .int .u8 ((c.ip.b9.toNat : Int)), .int .u8 ((c.ip.b10.toNat : Int)), .int .u8 ((c.ip.b11.toNat : Int)), .int .u8 ((c.ip.b12.toNat : Int)), .int .u8 ((c.ip.b13.toNat : Int)), .int .u8 ((c.ip.b14.toNat : Int)), .int .u8 ((c.ip.b15.toNat : Int)), .int .i64 (c.port)]) (x_load (p := .pointer (some ⟨b1, 0, none⟩)) rfl (by kernel_rfl) (run_loadA (k := 18) (by kernel_rfl) (by kernel_rfl) (hO.blk (List.mem_cons_of_mem _ (List.mem_cons_of_mem _ (List.mem_cons_of_mem _ List.mem_cons_self)))) (by kernel_rfl) (by kernel_rfl))) ?_; clear hF; intro a hF
   refine Vr hF (.bool true) (x_bool (x := decide (c = c)) (decide_eq_true rfl) (x_eqCd (a := c) (b := c) rfl (by kernel_rfl) (by kernel_rfl))) ?_; clear hF; intro a hF
   refine Vp hF (.bool true) ?_; clear hF; intro a hF
   refine Vp hF (.bool true) ?_; clear hF; intro a hF
   refine L_nil ?_
   refine hK15 _ _ ?_
   refine wp_ret ?_
   refine ret1 hF (v := .bool true) rfl (resT (by kernel_rfl)) (by refine ⟨?_, hO.nil⟩; first | rfl | (exfalso; simp_all; done) | (simp; done)) .ret (.inl rfl)

theorem parseCd_err {s : ByteArray} {i : Nat} (h : parseCd s = .error i) : i = 3 ∨ i = 0 ∨ i = 7 := by
  unfold parseCd at h
  split at h
  · cases h; exact .inl rfl
  · split at h
    · split at h
      · split at h
        · cases h
        · cases h; exact .inr (.inr rfl)
      · cases h; exact .inr (.inl rfl)
    · cases h; exact .inl rfl
theorem law03_CidrParses (I : List Nat) (ea : Nat → Addr) (s : ByteArray) (c : Pt) (W : World) (hG : LibW W) (hE : Errs I ea W) (h3 : I.contains 3 = true) (h0 : I.contains 0 = true) (h7 : I.contains 7 = true) (hI : I = errIs) : Ret Tryz.prog 9 #[.string s, ptV c] W fun v W' => v = .bool true ∧ Own W noX [] W' := by
  cases hp : parseCd s with
  | ok x0 => exact law03_CidrParses_s I ea s c x0 W hG hE h3 h0 h7 hI hp
  | error i =>
    exact law03_CidrParses_i I ea s c i W hG hE h3 h0 h7 hI hp (by rcases parseCd_err hp with rfl | rfl | rfl <;> decide)
end Go.Proofs.YthellfigmpjhlaaGreatDoor
