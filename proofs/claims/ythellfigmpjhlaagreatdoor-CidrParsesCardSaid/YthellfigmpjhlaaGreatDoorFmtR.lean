import Derived.Test.YthellfigmpjhlaaGreatDoorFmtW
namespace Go.Proofs.YthellfigmpjhlaaGreatDoor
open Go Go.RowKit
set_option linter.unusedVariables false
set_option linter.unusedSimpArgs false
set_option maxRecDepth 20000 in
theorem numeral10 (n : Nat) (W : World) (hn : n < 1000000) : Ret Tryz.prog 85 #[.int .i64 ((n : Int)), .int .i64 10] W fun v W' => v = .string ⟨(numT 10 n).toArray⟩ ∧ Own W noX [] W' := by
 induction n using Nat.strongRecOn generalizing W
 rename_i n ih
 have hsz : ((⟨#[48, 49, 50, 51, 52, 53, 54, 55, 56, 57, 97, 98, 99, 100, 101, 102]⟩ : ByteArray).size : Int) = 16 := rfl
 refine enter Tryz.func85 rfl (n := 29) rfl (by kernel_rfl) (E0 := [(1, .int .i64 10), (0, .int .i64 ((n : Int)))]) (by kernel_rfl) ?_
 intro a hF; have hO := Own.start W noX
 refine wp_seq_k fun K1 hK1 => ?_
 refine wp_region_lit ?_
 refine Vp hF (.string (⟨#[]⟩ : ByteArray)) ?_; clear hF; intro a hF
 refine L_nil ?_
 refine hK1 _ _ ?_
 refine wp_seq_k fun K2 hK2 => ?_
 refine wp_region_lit ?_
 refine Vp hF (.string (⟨#[48, 49, 50, 51, 52, 53, 54, 55, 56, 57, 97, 98, 99, 100, 101, 102]⟩ : ByteArray)) ?_; clear hF; intro a hF
 refine L_nil ?_
 refine hK2 _ _ ?_
 refine wp_seq_k fun K3 hK3 => ?_
 refine wp_seq_k fun K4 hK4 => ?_
 refine wp_region_lit ?_
 refine Vp hF (.int .i64 ((n : Int))) ?_; clear hF; intro a hF
 refine Vp hF (.int .i64 10) ?_; clear hF; intro a hF
 refine Vp hF (.bool (decide ((n : Int) < 10))) ?_; clear hF; intro a hF
 refine L_nil ?_
 refine hK4 _ _ ?_
 by_cases q1 : (n : Int) < 10
 ·
  replace hF := hF.know (d := 8) (v' := .bool true) (by kernel_rfl) (congrArg Value.bool (decide_eq_true q1))
  refine cond_t hF (by kernel_rfl) (by kernel_rfl) ?_
  refine wp_seq_k fun K5 hK5 => ?_
  refine wp_region_lit ?_
  refine Vp hF (.string (⟨#[48, 49, 50, 51, 52, 53, 54, 55, 56, 57, 97, 98, 99, 100, 101, 102]⟩ : ByteArray)) ?_; clear hF; intro a hF
  refine Vp hF (.int .i64 ((n : Int))) ?_; clear hF; intro a hF
  refine Vp hF (.int .i64 ((n : Int))) ?_; clear hF; intro a hF
  refine Vr hF (.int .i64 ((n : Int) + 1)) (x_int (x := IntKind.i64.wrap ((n : Int) + 1)) (i64In (by omega) (by omega)) (by kernel_rfl)) ?_; clear hF; intro a hF
  refine Vr hF (.string ((⟨#[48, 49, 50, 51, 52, 53, 54, 55, 56, 57, 97, 98, 99, 100, 101, 102]⟩ : ByteArray).extract ((n : Int).toNat) (((n : Int) + 1).toNat))) (x_slStrLH (s := (⟨#[48, 49, 50, 51, 52, 53, 54, 55, 56, 57, 97, 98, 99, 100, 101, 102]⟩ : ByteArray)) (k := .i64) (i := (n : Int)) (k' := .i64) (j := (n : Int) + 1) rfl (by kernel_rfl) (by kernel_rfl) (by kernel_rfl) (by kernel_rfl) (by omega) (by omega) (by omega)) ?_; clear hF; intro a hF
  refine Vp hF (.string ((⟨#[48, 49, 50, 51, 52, 53, 54, 55, 56, 57, 97, 98, 99, 100, 101, 102]⟩ : ByteArray).extract ((n : Int).toNat) (((n : Int) + 1).toNat))) ?_; clear hF; intro a hF
  refine L_nil ?_
  refine hK5 _ _ ?_
  refine wp_ret ?_
  refine then_ret ?_
  refine ret1 hF (v := .string ((⟨#[48, 49, 50, 51, 52, 53, 54, 55, 56, 57, 97, 98, 99, 100, 101, 102]⟩ : ByteArray).extract ((n : Int).toNat) (((n : Int) + 1).toNat))) rfl (resT (by kernel_rfl)) (by refine ⟨?_, hO.nil⟩; first | exact congrArg Value.string (num_lo (b := 10) (n := n) (by omega) (by omega)) | exact congrArg Value.string (num_hi (b := 10) (n := n) (by omega) (by omega) (by omega))) .ret (.inl rfl)
 ·
  replace hF := hF.know (d := 8) (v' := .bool false) (by kernel_rfl) (congrArg Value.bool (decide_eq_false q1))
  refine cond_f hF (by kernel_rfl) (by kernel_rfl) ?_
  refine wp_skip ?_
  refine hK3 _ _ ?_
  refine wp_seq_k fun K6 hK6 => ?_
  refine A_start (fun Wx => Own W noX [] Wx) (by kernel_rfl) ?_
  replace hO := hO.drewN 1
  generalize hWd : ({ W with drawn := W.drawn + 1 } : World) = W_d at hO ⊢; clear hWd
  have hS := hO.sub (List.nil_sublist _)
  refine Tk 0 rfl hF (.int .i64 ((n : Int))) (fun Wx _ => by kernel_rfl) hS ?_; clear hF; intro a hF
  refine Tk 1 rfl hF (.int .i64 10) (fun Wx _ => by kernel_rfl) hS ?_; clear hF; intro a hF
  refine Tk 2 rfl hF (.int .i64 ((n : Int) / 10)) (fun Wx _ => (x_int (x := IntKind.i64.wrap (Int.tdiv (n : Int) 10)) (i64Quo (by decide) (by omega) (by omega)) (by kernel_rfl))) hS ?_; clear hF; intro a hF
  refine Tk 3 rfl hF (.int .i64 10) (fun Wx _ => by kernel_rfl) hS ?_; clear hF; intro a hF
  refine Tk 5 rfl hF (.string (⟨#[48, 49, 50, 51, 52, 53, 54, 55, 56, 57, 97, 98, 99, 100, 101, 102]⟩ : ByteArray)) (fun Wx _ => by kernel_rfl) hS ?_; clear hF; intro a hF
  refine Tk 6 rfl hF (.int .i64 ((n : Int))) (fun Wx _ => by kernel_rfl) hS ?_; clear hF; intro a hF
  refine Tk 7 rfl hF (.int .i64 10) (fun Wx _ => by kernel_rfl) hS ?_; clear hF; intro a hF
  refine Tk 8 rfl hF (.int .i64 ((n : Int) % 10)) (fun Wx _ => (x_int (x := Int.tmod (n : Int) 10) (rem_pos (by omega)) (by kernel_rfl))) hS ?_; clear hF; intro a hF
  refine Tk 9 rfl hF (.int .i64 ((n : Int))) (fun Wx _ => by kernel_rfl) hS ?_; clear hF; intro a hF
  refine Tk 10 rfl hF (.int .i64 10) (fun Wx _ => by kernel_rfl) hS ?_; clear hF; intro a hF
  refine Tk 11 rfl hF (.int .i64 ((n : Int) % 10)) (fun Wx _ => (x_int (x := Int.tmod (n : Int) 10) (rem_pos (by omega)) (by kernel_rfl))) hS ?_; clear hF; intro a hF
  refine Tk 12 rfl hF (.int .i64 ((n : Int) % 10 + 1)) (fun Wx _ => (x_int (x := IntKind.i64.wrap ((n : Int) % 10 + 1)) (i64In (by omega) (by omega)) (by kernel_rfl))) hS ?_; clear hF; intro a hF
  refine Tk 13 rfl hF (.string ((⟨#[48, 49, 50, 51, 52, 53, 54, 55, 56, 57, 97, 98, 99, 100, 101, 102]⟩ : ByteArray).extract (((n : Int) % 10).toNat) (((n : Int) % 10 + 1).toNat))) (fun Wx _ => (x_slStrLH (s := (⟨#[48, 49, 50, 51, 52, 53, 54, 55, 56, 57, 97, 98, 99, 100, 101, 102]⟩ : ByteArray)) (k := .i64) (i := (n : Int) % 10) (k' := .i64) (j := (n : Int) % 10 + 1) rfl (by kernel_rfl) (by kernel_rfl) (by kernel_rfl) (by kernel_rfl) (by omega) (by omega) (by omega))) hS ?_; clear hF; intro a hF
  refine A_one (i := 4) (listed' := #[true, true, true, true, true, true, true, true, true, true, true, true, true, true, false, false]) (by kernel_rfl) rfl (by kernel_rfl) ?_
  refine OpK.lc hF (ih (n / 10) (by omega) W_d (by omega)) ?_
  clear hF; rintro _ W1 a ⟨rfl, hk⟩ hF
  replace hO := hO.call0 hk; clear hk
  refine ⟨hO.sub (List.nil_sublist _), ?_⟩
  have hS := hO.sub (List.nil_sublist _)
  refine Tk 14 rfl hF (.string ((⟨(numT 10 (n / 10)).toArray⟩ : ByteArray) ++ ((⟨#[48, 49, 50, 51, 52, 53, 54, 55, 56, 57, 97, 98, 99, 100, 101, 102]⟩ : ByteArray).extract (((n : Int) % 10).toNat) (((n : Int) % 10 + 1).toNat)))) (fun Wx _ => (x_cat (s := (⟨(numT 10 (n / 10)).toArray⟩ : ByteArray)) (t := (⟨#[48, 49, 50, 51, 52, 53, 54, 55, 56, 57, 97, 98, 99, 100, 101, 102]⟩ : ByteArray).extract (((n : Int) % 10).toNat) (((n : Int) % 10 + 1).toNat)) rfl (by kernel_rfl) (by kernel_rfl) (by (first | omega | (have t1 := numT_len (b := 10) (by omega) (n / 10 + 1) (n / 10) (by omega); (try simp only [ByteArray.size_extract] at *); (try simp only [ByteArray.size, List.size_toArray] at *); omega))))) hS ?_; clear hF; intro a hF
  refine Tk 15 rfl hF (.string ((⟨(numT 10 (n / 10)).toArray⟩ : ByteArray) ++ ((⟨#[48, 49, 50, 51, 52, 53, 54, 55, 56, 57, 97, 98, 99, 100, 101, 102]⟩ : ByteArray).extract (((n : Int) % 10).toNat) (((n : Int) % 10 + 1).toNat)))) (fun Wx _ => by kernel_rfl) hS ?_; clear hF; intro a hF
  refine A_done (by kernel_rfl) ?_
  refine hK6 _ _ ?_
  refine wp_ret ?_
  refine ret1 hF (v := .string ((⟨(numT 10 (n / 10)).toArray⟩ : ByteArray) ++ ((⟨#[48, 49, 50, 51, 52, 53, 54, 55, 56, 57, 97, 98, 99, 100, 101, 102]⟩ : ByteArray).extract (((n : Int) % 10).toNat) (((n : Int) % 10 + 1).toNat)))) rfl (resT (by kernel_rfl)) (by refine ⟨?_, hO.nil⟩; first | exact congrArg Value.string (num_lo (b := 10) (n := n) (by omega) (by omega)) | exact congrArg Value.string (num_hi (b := 10) (n := n) (by omega) (by omega) (by omega))) .ret (.inl rfl)

set_option maxRecDepth 20000 in
theorem numeral16 (n : Nat) (W : World) (hn : n < 1000000) : Ret Tryz.prog 85 #[.int .i64 ((n : Int)), .int .i64 16] W fun v W' => v = .string ⟨(numT 16 n).toArray⟩ ∧ Own W noX [] W' := by
 induction n using Nat.strongRecOn generalizing W
 rename_i n ih
 have hsz : ((⟨#[48, 49, 50, 51, 52, 53, 54, 55, 56, 57, 97, 98, 99, 100, 101, 102]⟩ : ByteArray).size : Int) = 16 := rfl
 refine enter Tryz.func85 rfl (n := 29) rfl (by kernel_rfl) (E0 := [(1, .int .i64 16), (0, .int .i64 ((n : Int)))]) (by kernel_rfl) ?_
 intro a hF; have hO := Own.start W noX
 refine wp_seq_k fun K1 hK1 => ?_
 refine wp_region_lit ?_
 refine Vp hF (.string (⟨#[]⟩ : ByteArray)) ?_; clear hF; intro a hF
 refine L_nil ?_
 refine hK1 _ _ ?_
 refine wp_seq_k fun K2 hK2 => ?_
 refine wp_region_lit ?_
 refine Vp hF (.string (⟨#[48, 49, 50, 51, 52, 53, 54, 55, 56, 57, 97, 98, 99, 100, 101, 102]⟩ : ByteArray)) ?_; clear hF; intro a hF
 refine L_nil ?_
 refine hK2 _ _ ?_
 refine wp_seq_k fun K3 hK3 => ?_
 refine wp_seq_k fun K4 hK4 => ?_
 refine wp_region_lit ?_
 refine Vp hF (.int .i64 ((n : Int))) ?_; clear hF; intro a hF
 refine Vp hF (.int .i64 16) ?_; clear hF; intro a hF
 refine Vp hF (.bool (decide ((n : Int) < 16))) ?_; clear hF; intro a hF
 refine L_nil ?_
 refine hK4 _ _ ?_
 by_cases q1 : (n : Int) < 16
 ·
  replace hF := hF.know (d := 8) (v' := .bool true) (by kernel_rfl) (congrArg Value.bool (decide_eq_true q1))
  refine cond_t hF (by kernel_rfl) (by kernel_rfl) ?_
  refine wp_seq_k fun K5 hK5 => ?_
  refine wp_region_lit ?_
  refine Vp hF (.string (⟨#[48, 49, 50, 51, 52, 53, 54, 55, 56, 57, 97, 98, 99, 100, 101, 102]⟩ : ByteArray)) ?_; clear hF; intro a hF
  refine Vp hF (.int .i64 ((n : Int))) ?_; clear hF; intro a hF
  refine Vp hF (.int .i64 ((n : Int))) ?_; clear hF; intro a hF
  refine Vr hF (.int .i64 ((n : Int) + 1)) (x_int (x := IntKind.i64.wrap ((n : Int) + 1)) (i64In (by omega) (by omega)) (by kernel_rfl)) ?_; clear hF; intro a hF
  refine Vr hF (.string ((⟨#[48, 49, 50, 51, 52, 53, 54, 55, 56, 57, 97, 98, 99, 100, 101, 102]⟩ : ByteArray).extract ((n : Int).toNat) (((n : Int) + 1).toNat))) (x_slStrLH (s := (⟨#[48, 49, 50, 51, 52, 53, 54, 55, 56, 57, 97, 98, 99, 100, 101, 102]⟩ : ByteArray)) (k := .i64) (i := (n : Int)) (k' := .i64) (j := (n : Int) + 1) rfl (by kernel_rfl) (by kernel_rfl) (by kernel_rfl) (by kernel_rfl) (by omega) (by omega) (by omega)) ?_; clear hF; intro a hF
  refine Vp hF (.string ((⟨#[48, 49, 50, 51, 52, 53, 54, 55, 56, 57, 97, 98, 99, 100, 101, 102]⟩ : ByteArray).extract ((n : Int).toNat) (((n : Int) + 1).toNat))) ?_; clear hF; intro a hF
  refine L_nil ?_
  refine hK5 _ _ ?_
  refine wp_ret ?_
  refine then_ret ?_
  refine ret1 hF (v := .string ((⟨#[48, 49, 50, 51, 52, 53, 54, 55, 56, 57, 97, 98, 99, 100, 101, 102]⟩ : ByteArray).extract ((n : Int).toNat) (((n : Int) + 1).toNat))) rfl (resT (by kernel_rfl)) (by refine ⟨?_, hO.nil⟩; first | exact congrArg Value.string (num_lo (b := 16) (n := n) (by omega) (by omega)) | exact congrArg Value.string (num_hi (b := 16) (n := n) (by omega) (by omega) (by omega))) .ret (.inl rfl)
 ·
  replace hF := hF.know (d := 8) (v' := .bool false) (by kernel_rfl) (congrArg Value.bool (decide_eq_false q1))
  refine cond_f hF (by kernel_rfl) (by kernel_rfl) ?_
  refine wp_skip ?_
  refine hK3 _ _ ?_
  refine wp_seq_k fun K6 hK6 => ?_
  refine A_start (fun Wx => Own W noX [] Wx) (by kernel_rfl) ?_
  replace hO := hO.drewN 1
  generalize hWd : ({ W with drawn := W.drawn + 1 } : World) = W_d at hO ⊢; clear hWd
  have hS := hO.sub (List.nil_sublist _)
  refine Tk 0 rfl hF (.int .i64 ((n : Int))) (fun Wx _ => by kernel_rfl) hS ?_; clear hF; intro a hF
  refine Tk 1 rfl hF (.int .i64 16) (fun Wx _ => by kernel_rfl) hS ?_; clear hF; intro a hF
  refine Tk 2 rfl hF (.int .i64 ((n : Int) / 16)) (fun Wx _ => (x_int (x := IntKind.i64.wrap (Int.tdiv (n : Int) 16)) (i64Quo (by decide) (by omega) (by omega)) (by kernel_rfl))) hS ?_; clear hF; intro a hF
  refine Tk 3 rfl hF (.int .i64 16) (fun Wx _ => by kernel_rfl) hS ?_; clear hF; intro a hF
  refine Tk 5 rfl hF (.string (⟨#[48, 49, 50, 51, 52, 53, 54, 55, 56, 57, 97, 98, 99, 100, 101, 102]⟩ : ByteArray)) (fun Wx _ => by kernel_rfl) hS ?_; clear hF; intro a hF
  refine Tk 6 rfl hF (.int .i64 ((n : Int))) (fun Wx _ => by kernel_rfl) hS ?_; clear hF; intro a hF
  refine Tk 7 rfl hF (.int .i64 16) (fun Wx _ => by kernel_rfl) hS ?_; clear hF; intro a hF
  refine Tk 8 rfl hF (.int .i64 ((n : Int) % 16)) (fun Wx _ => (x_int (x := Int.tmod (n : Int) 16) (rem_pos (by omega)) (by kernel_rfl))) hS ?_; clear hF; intro a hF
  refine Tk 9 rfl hF (.int .i64 ((n : Int))) (fun Wx _ => by kernel_rfl) hS ?_; clear hF; intro a hF
  refine Tk 10 rfl hF (.int .i64 16) (fun Wx _ => by kernel_rfl) hS ?_; clear hF; intro a hF
  refine Tk 11 rfl hF (.int .i64 ((n : Int) % 16)) (fun Wx _ => (x_int (x := Int.tmod (n : Int) 16) (rem_pos (by omega)) (by kernel_rfl))) hS ?_; clear hF; intro a hF
  refine Tk 12 rfl hF (.int .i64 ((n : Int) % 16 + 1)) (fun Wx _ => (x_int (x := IntKind.i64.wrap ((n : Int) % 16 + 1)) (i64In (by omega) (by omega)) (by kernel_rfl))) hS ?_; clear hF; intro a hF
  refine Tk 13 rfl hF (.string ((⟨#[48, 49, 50, 51, 52, 53, 54, 55, 56, 57, 97, 98, 99, 100, 101, 102]⟩ : ByteArray).extract (((n : Int) % 16).toNat) (((n : Int) % 16 + 1).toNat))) (fun Wx _ => (x_slStrLH (s := (⟨#[48, 49, 50, 51, 52, 53, 54, 55, 56, 57, 97, 98, 99, 100, 101, 102]⟩ : ByteArray)) (k := .i64) (i := (n : Int) % 16) (k' := .i64) (j := (n : Int) % 16 + 1) rfl (by kernel_rfl) (by kernel_rfl) (by kernel_rfl) (by kernel_rfl) (by omega) (by omega) (by omega))) hS ?_; clear hF; intro a hF
  refine A_one (i := 4) (listed' := #[true, true, true, true, true, true, true, true, true, true, true, true, true, true, false, false]) (by kernel_rfl) rfl (by kernel_rfl) ?_
  refine OpK.lc hF (ih (n / 16) (by omega) W_d (by omega)) ?_
  clear hF; rintro _ W1 a ⟨rfl, hk⟩ hF
  replace hO := hO.call0 hk; clear hk
  refine ⟨hO.sub (List.nil_sublist _), ?_⟩
  have hS := hO.sub (List.nil_sublist _)
  refine Tk 14 rfl hF (.string ((⟨(numT 16 (n / 16)).toArray⟩ : ByteArray) ++ ((⟨#[48, 49, 50, 51, 52, 53, 54, 55, 56, 57, 97, 98, 99, 100, 101, 102]⟩ : ByteArray).extract (((n : Int) % 16).toNat) (((n : Int) % 16 + 1).toNat)))) (fun Wx _ => (x_cat (s := (⟨(numT 16 (n / 16)).toArray⟩ : ByteArray)) (t := (⟨#[48, 49, 50, 51, 52, 53, 54, 55, 56, 57, 97, 98, 99, 100, 101, 102]⟩ : ByteArray).extract (((n : Int) % 16).toNat) (((n : Int) % 16 + 1).toNat)) rfl (by kernel_rfl) (by kernel_rfl) (by (first | omega | (have t1 := numT_len (b := 16) (by omega) (n / 16 + 1) (n / 16) (by omega); (try simp only [ByteArray.size_extract] at *); (try simp only [ByteArray.size, List.size_toArray] at *); omega))))) hS ?_; clear hF; intro a hF
  refine Tk 15 rfl hF (.string ((⟨(numT 16 (n / 16)).toArray⟩ : ByteArray) ++ ((⟨#[48, 49, 50, 51, 52, 53, 54, 55, 56, 57, 97, 98, 99, 100, 101, 102]⟩ : ByteArray).extract (((n : Int) % 16).toNat) (((n : Int) % 16 + 1).toNat)))) (fun Wx _ => by kernel_rfl) hS ?_; clear hF; intro a hF
  refine A_done (by kernel_rfl) ?_
  refine hK6 _ _ ?_
  refine wp_ret ?_
  refine ret1 hF (v := .string ((⟨(numT 16 (n / 16)).toArray⟩ : ByteArray) ++ ((⟨#[48, 49, 50, 51, 52, 53, 54, 55, 56, 57, 97, 98, 99, 100, 101, 102]⟩ : ByteArray).extract (((n : Int) % 16).toNat) (((n : Int) % 16 + 1).toNat)))) rfl (resT (by kernel_rfl)) (by refine ⟨?_, hO.nil⟩; first | exact congrArg Value.string (num_lo (b := 16) (n := n) (by omega) (by omega)) | exact congrArg Value.string (num_hi (b := 16) (n := n) (by omega) (by omega) (by omega))) .ret (.inl rfl)

set_option maxRecDepth 20000 in
theorem ref02_Format (x : Ip) (W : World) : Ret Tryz.prog 26 #[ipV x] W fun v W' => v = .string (fmtS x) ∧ Own W noX [] W' := by
 have hgap := (gap x).1
 refine enter Tryz.func26 rfl (n := 121) rfl (by kernel_rfl) (E0 := [(0, ipV x)]) (by kernel_rfl) ?_
 intro a hF; have hO := Own.start W noX
 refine wp_seq_k fun K1 hK1 => ?_
 refine wp_region_lit ?_
 refine L_new hF hO (by kernel_rfl) (by kernel_rfl) (vf := fun b => .pointer (some ⟨b, 0, none⟩)) (ob := .cells #[.bool x.six, .int .u8 ((x.b0.toNat : Int)), .int .u8 ((x.b1.toNat : Int)), .int .u8 ((x.b2.toNat : Int)), .int .u8 ((x.b3.toNat : Int)), .int .u8 ((x.b4.toNat : Int)), .int .u8 ((x.b5.toNat : Int)), .int .u8 ((x.b6.toNat : Int)), .int .u8 ((x.b7.toNat : Int)), .int .u8 ((x.b8.toNat : Int)), .int .u8 ((x.b9.toNat : Int)), .int .u8 ((x.b10.toNat : Int)), .int .u8 ((x.b11.toNat : Int)), .int .u8 ((x.b12.toNat : Int)), .int .u8 ((x.b13.toNat : Int)), .int .u8 ((x.b14.toNat : Int)), .int .u8 ((x.b15.toNat : Int))] 33) (by kernel_rfl) (by kernel_rfl) ?_
 clear hF hO; intro b1 W1 a hO hF
 replace hO := hO.reblk (cs := #[.bool x.six, .int .u8 ((x.b0.toNat : Int)), .int .u8 ((x.b1.toNat : Int)), .int .u8 ((x.b2.toNat : Int)), .int .u8 ((x.b3.toNat : Int)), .int .u8 ((x.b4.toNat : Int)), .int .u8 ((x.b5.toNat : Int)), .int .u8 ((x.b6.toNat : Int)), .int .u8 ((x.b7.toNat : Int)), .int .u8 ((x.b8.toNat : Int)), .int .u8 ((x.b9.toNat : Int)), .int .u8 ((x.b10.toNat : Int)), .int .u8 ((x.b11.toNat : Int)), .int .u8 ((x.b12.toNat : Int)), .int .u8 ((x.b13.toNat : Int)), .int .u8 ((x.b14.toNat : Int)), .int .u8 ((x.b15.toNat : Int))]) (cs' := (ipL x).toArray) (by kernel_rfl) (.head _)
 refine Vp hF (.string (⟨#[]⟩ : ByteArray)) ?_; clear hF; intro a hF
 refine L_nil ?_
 refine hK1 _ _ ?_
 refine wp_seq_k fun K2 hK2 => ?_
 refine wp_seq_k fun K3 hK3 => ?_
 refine wp_region_lit ?_
 refine Vr hF (ipV x) (x_load (p := .pointer (some ⟨b1, 0, none⟩)) rfl (by kernel_rfl) (run_loadA (k := 17) (by kernel_rfl) (by kernel_rfl) (hO.blk List.mem_cons_self) (by kernel_rfl) (by kernel_rfl))) ?_; clear hF; intro a hF
 refine Lc hF (ref02_Right x W1) ?_
 clear hF; rintro _ W2 a ⟨rfl, hk⟩ hF
 replace hO := hO.call0 hk; clear hk
 refine Vp hF (.bool (!(rightIp x))) ?_; clear hF; intro a hF
 refine L_nil ?_
 refine hK3 _ _ ?_
 cases q1 : (rightIp x : Bool)
 ·
  replace hF := hF.know (d := 14) (v' := .bool true) (by kernel_rfl) (congrArg Value.bool (notT q1))
  refine cond_t hF (by kernel_rfl) (by kernel_rfl) ?_
  refine wp_seq_k fun K4 hK4 => ?_
  refine wp_region_lit ?_
  refine Vp hF (.string (⟨#[]⟩ : ByteArray)) ?_; clear hF; intro a hF
  refine L_nil ?_
  refine hK4 _ _ ?_
  refine wp_ret ?_
  refine then_ret ?_
  refine ret1 hF (v := .string (⟨#[]⟩ : ByteArray)) rfl (resT (by kernel_rfl)) (by refine ⟨?_, hO.nil⟩; first | (rw [fmtS_no (by assumption)]; done) | (obtain rfl : i = 4 := (by omega); rw [hI.2, fmtS_four (by assumption) (by assumption)]; rfl) | (rw [← fmtI_end hS (by assumption) (by assumption) (by assumption)]; done)) .ret (.inl rfl)
 ·
  replace hF := hF.know (d := 14) (v' := .bool false) (by kernel_rfl) (congrArg Value.bool (notF q1))
  refine cond_f hF (by kernel_rfl) (by kernel_rfl) ?_
  refine wp_skip ?_
  refine hK2 _ _ ?_
  refine wp_seq_k fun K5 hK5 => ?_
  refine wp_region_lit ?_
  refine Vp hF (.string (⟨#[]⟩ : ByteArray)) ?_; clear hF; intro a hF
  refine L_nil ?_
  refine hK5 _ _ ?_
  refine wp_seq_k fun K6 hK6 => ?_
  refine wp_seq_k fun K7 hK7 => ?_
  refine wp_region_lit ?_
  refine Vp hF (.pointer (some ⟨b1, 0, none⟩)) ?_; clear hF; intro a hF
  refine Vr hF (.bool x.six) (x_load (p := .pointer (some ⟨b1, 0, none⟩)) rfl (by kernel_rfl) (run_load1 (by kernel_rfl) ((hO.cell List.mem_cons_self).trans (by kernel_rfl)))) ?_; clear hF; intro a hF
  refine Vp hF (.bool (!x.six)) ?_; clear hF; intro a hF
  refine L_nil ?_
  refine hK7 _ _ ?_
  cases q2 : (x.six : Bool)
  ·
   replace hF := hF.know (d := 17) (v' := .bool true) (by kernel_rfl) (congrArg Value.bool (notT q2))
   refine cond_t hF (by kernel_rfl) (by kernel_rfl) ?_
   refine wp_seq_k fun K8 hK8 => ?_
   refine wp_seq_k fun K9 hK9 => ?_
   refine wp_region_lit ?_
   refine Vp hF (.int .i64 0) ?_; clear hF; intro a hF
   refine L_nil ?_
   refine hK9 _ _ ?_
   refine wp_block ?_
   refine loopX (τ := Nat × ByteArray) (fun (xτ : Nat × ByteArray) a Wx => (fun (i : Nat) (s : ByteArray) => (i ≤ 4 ∧ s = ⟨(fourT x i).toArray⟩) ∧ Fr 121 a [(1, .pointer (some ⟨b1, 0, none⟩)), (2, .string (⟨#[]⟩ : ByteArray)), (3, .string s), (4, .int .i64 ((i : Int)))] ∧ Own W noX [.blk b1 (.cells (ipL x).toArray 33 (0, 0))] Wx) (xτ.1) (xτ.2)) (fun (xτ : Nat × ByteArray) => (fun (i : Nat) (s : ByteArray) => 4 - i) (xτ.1) (xτ.2)) ((0, ⟨#[]⟩)) ⟨⟨by omega, rfl⟩, ?_, ?_⟩ ?_
   · exact hF.restrict ⟨(by kernel_rfl), (by kernel_rfl), (congrArg some (by first | rfl | exact congrArg (Value.int _) (by omega) | simp)), (congrArg some (by first | rfl | exact congrArg (Value.int _) (by omega) | simp)), trivial⟩
   · exact hO.sub (.cons_cons _ (List.nil_sublist _))
   clear hF hO; rintro ⟨i, s⟩ a Wl1 ⟨hI, hF, hO⟩ KhK_1 hK_1
   try dsimp only at hI
   refine wp_seq_k fun K10 hK10 => ?_
   refine wp_seq_k fun K11 hK11 => ?_
   refine wp_region_lit ?_
   refine Vp hF (.int .i64 ((i : Int))) ?_; clear hF; intro a hF
   refine Vp hF (.bool (decide ((i : Int) < 4))) ?_; clear hF; intro a hF
   refine L_nil ?_
   refine hK11 _ _ ?_
   by_cases q3 : (i : Int) < 4
   ·
    replace hF := hF.know (d := 19) (v' := .bool true) (by kernel_rfl) (congrArg Value.bool (decide_eq_true q3))
    refine cond_t hF (by kernel_rfl) (by kernel_rfl) ?_
    refine wp_skip ?_
    refine hK10 _ _ ?_
    refine wp_seq_k fun K12 hK12 => ?_
    refine wp_block ?_
    refine wp_seq_k fun K13 hK13 => ?_
    refine wp_seq_k fun K14 hK14 => ?_
    refine wp_region_lit ?_
    refine Vp hF (.int .i64 ((i : Int))) ?_; clear hF; intro a hF
    refine Vp hF (.bool (decide ((i : Int) > 0))) ?_; clear hF; intro a hF
    refine L_nil ?_
    refine hK14 _ _ ?_
    by_cases q4 : (i : Int) > 0
    ·
     replace hF := hF.know (d := 23) (v' := .bool true) (by kernel_rfl) (congrArg Value.bool (decide_eq_true q4))
     refine cond_t hF (by kernel_rfl) (by kernel_rfl) ?_
     refine wp_region_lit ?_
     refine Vp hF (.string s) ?_; clear hF; intro a hF
     refine Vr hF (.string (s ++ (⟨#[46]⟩ : ByteArray))) (x_cat (s := s) (t := (⟨#[46]⟩ : ByteArray)) rfl (by kernel_rfl) (by kernel_rfl) (by (first | omega | (have hq := UInt8.toNat_lt (x.at i); omega) | (have hq := UInt8.toNat_lt (x.at (2 * (k : Int)).toNat); have hq2 := UInt8.toNat_lt (x.at (2 * (k : Int) + 1).toNat); omega) | (have hq2 := (atN_lt x j); omega) | (have hal := congrArg List.length hJ.2; rw [nums8_len] at hal; (try simp only [maxLen] at *); omega) | (have hz := hZ.1; omega) | (have t1 := fourT_len x i hI.1; have t2 := numT_len (b := 10) (by omega) ((x.at i).toNat + 1) (x.at i).toNat (by omega); have t3 := UInt8.toNat_lt (x.at i); have t4 : s.size = (fourT x i).length := (by rw [hI.2]; rfl); (try simp only [ByteArray.size_append] at *); (try simp only [ByteArray.size, List.size_toArray, List.length_cons, List.length_nil] at *); omega) | (have t1 := fmtI_len hS; have t2 := numT_len (b := 16) (by omega) (atN x j + 1) (atN x j) (by omega); have t3 := atN_lt x j; (try simp only [ByteArray.size_append] at *); (try simp only [ByteArray.size, List.size_toArray, List.length_cons, List.length_nil] at *); omega)))) ?_; clear hF; intro a hF
     refine Vp hF (.string (s ++ (⟨#[46]⟩ : ByteArray))) ?_; clear hF; intro a hF
     refine L_nil ?_
     refine hK13 _ _ ?_
     refine wp_region_lit ?_
     refine Vp hF (.string (s ++ (⟨#[46]⟩ : ByteArray))) ?_; clear hF; intro a hF
     refine Vp hF (.int .i64 ((i : Int))) ?_; clear hF; intro a hF
     refine Vp hF (.pointer (some ⟨b1, 1, none⟩)) ?_; clear hF; intro a hF
     refine Vr hF (.pointer (some ⟨b1, 1 + i * 1, none⟩)) (x_idxPtr (b := b1) (off := 1) (elem := 5) (len := 16) (kd := .i64) (k := 1) (i := (i : Int)) rfl (by kernel_rfl) (by kernel_rfl) (by kernel_rfl) (by kernel_rfl) (by omega) (by omega)) ?_; clear hF; intro a hF
     refine Vr hF (.int .u8 (((x.at i).toNat : Int))) (x_load (p := .pointer (some ⟨b1, 1 + i * 1, none⟩)) rfl (by kernel_rfl) (run_load_ip hO List.mem_cons_self (by kernel_rfl) (by (first | omega | (simp only [List.length_set, List.length_take, List.length_drop, List.length_append, List.length_cons, List.length_nil]; done) | (simp only [List.length_set, List.length_take, List.length_drop, List.length_append, List.length_cons, List.length_nil]; omega) | (simp only [List.length_set, List.length_take, List.length_drop, List.length_append, List.length_cons, List.length_nil] at *; omega))))) ?_; clear hF; intro a hF
     refine Vr hF (.int .i64 (((x.at i).toNat : Int))) (x_int (x := IntKind.i64.wrap (((x.at i).toNat : Int))) (i64In (by have := UInt8.toNat_lt (x.at i); omega) (by have := UInt8.toNat_lt (x.at i); omega)) (by kernel_rfl)) ?_; clear hF; intro a hF
     refine Lc hF (numeral10 ((x.at i).toNat) Wl1 (by (first | omega | (have hq := UInt8.toNat_lt (x.at i); omega) | (have hq := UInt8.toNat_lt (x.at (2 * (k : Int)).toNat); have hq2 := UInt8.toNat_lt (x.at (2 * (k : Int) + 1).toNat); omega) | (have hq2 := (atN_lt x j); omega) | (have hal := congrArg List.length hJ.2; rw [nums8_len] at hal; (try simp only [maxLen] at *); omega) | (have hz := hZ.1; omega) | (have t1 := fourT_len x i hI.1; have t2 := numT_len (b := 10) (by omega) ((x.at i).toNat + 1) (x.at i).toNat (by omega); have t3 := UInt8.toNat_lt (x.at i); have t4 : s.size = (fourT x i).length := (by rw [hI.2]; rfl); (try simp only [ByteArray.size_append] at *); (try simp only [ByteArray.size, List.size_toArray, List.length_cons, List.length_nil] at *); omega) | (have t1 := fmtI_len hS; have t2 := numT_len (b := 16) (by omega) (atN x j + 1) (atN x j) (by omega); have t3 := atN_lt x j; (try simp only [ByteArray.size_append] at *); (try simp only [ByteArray.size, List.size_toArray, List.length_cons, List.length_nil] at *); omega)))) ?_
     clear hF; rintro _ W3 a ⟨rfl, hk⟩ hF
     replace hO := hO.call0 hk; clear hk
     refine Vr hF (.string ((s ++ (⟨#[46]⟩ : ByteArray)) ++ (⟨(numT 10 ((x.at i).toNat)).toArray⟩ : ByteArray))) (x_cat (s := s ++ (⟨#[46]⟩ : ByteArray)) (t := (⟨(numT 10 ((x.at i).toNat)).toArray⟩ : ByteArray)) rfl (by kernel_rfl) (by kernel_rfl) (by (first | omega | (have hq := UInt8.toNat_lt (x.at i); omega) | (have hq := UInt8.toNat_lt (x.at (2 * (k : Int)).toNat); have hq2 := UInt8.toNat_lt (x.at (2 * (k : Int) + 1).toNat); omega) | (have hq2 := (atN_lt x j); omega) | (have hal := congrArg List.length hJ.2; rw [nums8_len] at hal; (try simp only [maxLen] at *); omega) | (have hz := hZ.1; omega) | (have t1 := fourT_len x i hI.1; have t2 := numT_len (b := 10) (by omega) ((x.at i).toNat + 1) (x.at i).toNat (by omega); have t3 := UInt8.toNat_lt (x.at i); have t4 : s.size = (fourT x i).length := (by rw [hI.2]; rfl); (try simp only [ByteArray.size_append] at *); (try simp only [ByteArray.size, List.size_toArray, List.length_cons, List.length_nil] at *); omega) | (have t1 := fmtI_len hS; have t2 := numT_len (b := 16) (by omega) (atN x j + 1) (atN x j) (by omega); have t3 := atN_lt x j; (try simp only [ByteArray.size_append] at *); (try simp only [ByteArray.size, List.size_toArray, List.length_cons, List.length_nil] at *); omega)))) ?_; clear hF; intro a hF
     refine Vp hF (.string ((s ++ (⟨#[46]⟩ : ByteArray)) ++ (⟨(numT 10 ((x.at i).toNat)).toArray⟩ : ByteArray))) ?_; clear hF; intro a hF
     refine L_nil ?_
     refine block_normal ?_
     refine hK12 _ _ ?_
     refine wp_region_lit ?_
     refine Vp hF (.int .i64 ((i : Int))) ?_; clear hF; intro a hF
     refine Vr hF (.int .i64 ((i : Int) + 1)) (x_int (x := IntKind.i64.wrap ((i : Int) + 1)) (i64In (by omega) (by omega)) (by kernel_rfl)) ?_; clear hF; intro a hF
     refine Vp hF (.int .i64 ((i : Int) + 1)) ?_; clear hF; intro a hF
     refine L_nil ?_
     refine hK_1 ((i + 1, (s ++ (⟨#[46]⟩ : ByteArray)) ++ (⟨(numT 10 ((x.at i).toNat)).toArray⟩ : ByteArray))) _ _ (by first | omega | (dsimp only; omega)) ⟨⟨by dsimp only; omega, four_step hI.2 (by omega) (by first | (left; exact ⟨by omega, rfl⟩) | (right; exact ⟨by omega, rfl⟩))⟩, ?_, ?_⟩
     · exact hF.restrict ⟨(by kernel_rfl), (by kernel_rfl), (congrArg some (by first | rfl | exact congrArg (Value.int _) (by omega) | exact congrArg (Value.int _) (fmtI_gap hBL hS (by assumption) (by assumption)).2.1)), (congrArg some (by first | rfl | exact congrArg (Value.int _) (by omega) | exact congrArg (Value.int _) (fmtI_gap hBL hS (by assumption) (by assumption)).2.1)), trivial⟩
     · exact hO.sub (.cons_cons _ (List.nil_sublist _))
    ·
     replace hF := hF.know (d := 23) (v' := .bool false) (by kernel_rfl) (congrArg Value.bool (decide_eq_false q4))
     refine cond_f hF (by kernel_rfl) (by kernel_rfl) ?_
     refine wp_skip ?_
     refine hK13 _ _ ?_
     refine wp_region_lit ?_
     refine Vp hF (.string s) ?_; clear hF; intro a hF
     refine Vp hF (.int .i64 ((i : Int))) ?_; clear hF; intro a hF
     refine Vp hF (.pointer (some ⟨b1, 1, none⟩)) ?_; clear hF; intro a hF
     refine Vr hF (.pointer (some ⟨b1, 1 + i * 1, none⟩)) (x_idxPtr (b := b1) (off := 1) (elem := 5) (len := 16) (kd := .i64) (k := 1) (i := (i : Int)) rfl (by kernel_rfl) (by kernel_rfl) (by kernel_rfl) (by kernel_rfl) (by omega) (by omega)) ?_; clear hF; intro a hF
     refine Vr hF (.int .u8 (((x.at i).toNat : Int))) (x_load (p := .pointer (some ⟨b1, 1 + i * 1, none⟩)) rfl (by kernel_rfl) (run_load_ip hO List.mem_cons_self (by kernel_rfl) (by (first | omega | (simp only [List.length_set, List.length_take, List.length_drop, List.length_append, List.length_cons, List.length_nil]; done) | (simp only [List.length_set, List.length_take, List.length_drop, List.length_append, List.length_cons, List.length_nil]; omega) | (simp only [List.length_set, List.length_take, List.length_drop, List.length_append, List.length_cons, List.length_nil] at *; omega))))) ?_; clear hF; intro a hF
     refine Vr hF (.int .i64 (((x.at i).toNat : Int))) (x_int (x := IntKind.i64.wrap (((x.at i).toNat : Int))) (i64In (by have := UInt8.toNat_lt (x.at i); omega) (by have := UInt8.toNat_lt (x.at i); omega)) (by kernel_rfl)) ?_; clear hF; intro a hF
     refine Lc hF (numeral10 ((x.at i).toNat) Wl1 (by (first | omega | (have hq := UInt8.toNat_lt (x.at i); omega) | (have hq := UInt8.toNat_lt (x.at (2 * (k : Int)).toNat); have hq2 := UInt8.toNat_lt (x.at (2 * (k : Int) + 1).toNat); omega) | (have hq2 := (atN_lt x j); omega) | (have hal := congrArg List.length hJ.2; rw [nums8_len] at hal; (try simp only [maxLen] at *); omega) | (have hz := hZ.1; omega) | (have t1 := fourT_len x i hI.1; have t2 := numT_len (b := 10) (by omega) ((x.at i).toNat + 1) (x.at i).toNat (by omega); have t3 := UInt8.toNat_lt (x.at i); have t4 : s.size = (fourT x i).length := (by rw [hI.2]; rfl); (try simp only [ByteArray.size_append] at *); (try simp only [ByteArray.size, List.size_toArray, List.length_cons, List.length_nil] at *); omega) | (have t1 := fmtI_len hS; have t2 := numT_len (b := 16) (by omega) (atN x j + 1) (atN x j) (by omega); have t3 := atN_lt x j; (try simp only [ByteArray.size_append] at *); (try simp only [ByteArray.size, List.size_toArray, List.length_cons, List.length_nil] at *); omega)))) ?_
     clear hF; rintro _ W4 a ⟨rfl, hk⟩ hF
     replace hO := hO.call0 hk; clear hk
     refine Vr hF (.string (s ++ (⟨(numT 10 ((x.at i).toNat)).toArray⟩ : ByteArray))) (x_cat (s := s) (t := (⟨(numT 10 ((x.at i).toNat)).toArray⟩ : ByteArray)) rfl (by kernel_rfl) (by kernel_rfl) (by (first | omega | (have hq := UInt8.toNat_lt (x.at i); omega) | (have hq := UInt8.toNat_lt (x.at (2 * (k : Int)).toNat); have hq2 := UInt8.toNat_lt (x.at (2 * (k : Int) + 1).toNat); omega) | (have hq2 := (atN_lt x j); omega) | (have hal := congrArg List.length hJ.2; rw [nums8_len] at hal; (try simp only [maxLen] at *); omega) | (have hz := hZ.1; omega) | (have t1 := fourT_len x i hI.1; have t2 := numT_len (b := 10) (by omega) ((x.at i).toNat + 1) (x.at i).toNat (by omega); have t3 := UInt8.toNat_lt (x.at i); have t4 : s.size = (fourT x i).length := (by rw [hI.2]; rfl); (try simp only [ByteArray.size_append] at *); (try simp only [ByteArray.size, List.size_toArray, List.length_cons, List.length_nil] at *); omega) | (have t1 := fmtI_len hS; have t2 := numT_len (b := 16) (by omega) (atN x j + 1) (atN x j) (by omega); have t3 := atN_lt x j; (try simp only [ByteArray.size_append] at *); (try simp only [ByteArray.size, List.size_toArray, List.length_cons, List.length_nil] at *); omega)))) ?_; clear hF; intro a hF
     refine Vp hF (.string (s ++ (⟨(numT 10 ((x.at i).toNat)).toArray⟩ : ByteArray))) ?_; clear hF; intro a hF
     refine L_nil ?_
     refine block_normal ?_
     refine hK12 _ _ ?_
     refine wp_region_lit ?_
     refine Vp hF (.int .i64 ((i : Int))) ?_; clear hF; intro a hF
     refine Vr hF (.int .i64 ((i : Int) + 1)) (x_int (x := IntKind.i64.wrap ((i : Int) + 1)) (i64In (by omega) (by omega)) (by kernel_rfl)) ?_; clear hF; intro a hF
     refine Vp hF (.int .i64 ((i : Int) + 1)) ?_; clear hF; intro a hF
     refine L_nil ?_
     refine hK_1 ((i + 1, s ++ (⟨(numT 10 ((x.at i).toNat)).toArray⟩ : ByteArray))) _ _ (by first | omega | (dsimp only; omega)) ⟨⟨by dsimp only; omega, four_step hI.2 (by omega) (by first | (left; exact ⟨by omega, rfl⟩) | (right; exact ⟨by omega, rfl⟩))⟩, ?_, ?_⟩
     · exact hF.restrict ⟨(by kernel_rfl), (by kernel_rfl), (congrArg some (by first | rfl | exact congrArg (Value.int _) (by omega) | exact congrArg (Value.int _) (fmtI_gap hBL hS (by assumption) (by assumption)).2.1)), (congrArg some (by first | rfl | exact congrArg (Value.int _) (by omega) | exact congrArg (Value.int _) (fmtI_gap hBL hS (by assumption) (by assumption)).2.1)), trivial⟩
     · exact hO.sub (.cons_cons _ (List.nil_sublist _))
   ·
    replace hF := hF.know (d := 19) (v' := .bool false) (by kernel_rfl) (congrArg Value.bool (decide_eq_false q3))
    refine cond_f hF (by kernel_rfl) (by kernel_rfl) ?_
    refine wp_exit ?_
    refine then_exit ?_
    refine then_exit ?_
    refine inBlock_hit ?_
    refine hK8 _ _ ?_
    refine wp_seq_k fun K15 hK15 => ?_
    refine wp_region_lit ?_
    refine Vp hF (.string s) ?_; clear hF; intro a hF
    refine Vp hF (.string s) ?_; clear hF; intro a hF
    refine L_nil ?_
    refine hK15 _ _ ?_
    refine wp_ret ?_
    refine then_ret ?_
    refine ret1 hF (v := .string s) rfl (resT (by kernel_rfl)) (by refine ⟨?_, hO.nil⟩; first | (rw [fmtS_no (by assumption)]; done) | (obtain rfl : i = 4 := (by omega); rw [hI.2, fmtS_four (by assumption) (by assumption)]; rfl) | (rw [← fmtI_end hS (by assumption) (by assumption) (by assumption)]; done)) .ret (.inl rfl)
  ·
   replace hF := hF.know (d := 17) (v' := .bool false) (by kernel_rfl) (congrArg Value.bool (notF q2))
   refine cond_f hF (by kernel_rfl) (by kernel_rfl) ?_
   refine wp_skip ?_
   refine hK6 _ _ ?_
   refine wp_seq_k fun K16 hK16 => ?_
   refine wp_region_lit ?_
   refine L_new hF hO (by kernel_rfl) (by kernel_rfl) (vf := fun b => .slice (some ⟨b, 0, none⟩) 0 0) (ob := .cells #[] 3) (by kernel_rfl) (by kernel_rfl) ?_
   clear hF hO; intro b2 W5 a hO hF
   refine Vp hF (.slice (some ⟨b2, 0, none⟩) 0 0) ?_; clear hF; intro a hF
   refine L_nil ?_
   refine hK16 _ _ ?_
   refine wp_seq_k fun K17 hK17 => ?_
   refine wp_seq_k fun K18 hK18 => ?_
   refine wp_region_lit ?_
   refine Vp hF (.int .i64 0) ?_; clear hF; intro a hF
   refine L_nil ?_
   refine hK18 _ _ ?_
   refine wp_block ?_
   replace hO := hO.asRow (k := 1) (cap := 0) i64L ([] : List Int) (.head _) (by decide) (by kernel_rfl) (by decide) (by kernel_rfl)
   refine loopX (τ := Nat × Option Addr × Nat × List Int) (fun (xτ : Nat × Option Addr × Nat × List Int) a Wx => (fun (k : Nat) (q : Option Addr) (qc : Nat) (acc : List Int) => (k ≤ 8 ∧ acc = nums8 x k) ∧ Fr 121 a [(1, .pointer (some ⟨b1, 0, none⟩)), (2, .string (⟨#[]⟩ : ByteArray)), (3, .string (⟨#[]⟩ : ByteArray)), (5, .slice q acc.length qc), (6, .int .i64 (2 * (k : Int)))] ∧ Own W noX [rowL i64L 1 3 q qc acc, .blk b1 (.cells (ipL x).toArray 33 (0, 0))] Wx) (xτ.1) (xτ.2.1) (xτ.2.2.1) (xτ.2.2.2)) (fun (xτ : Nat × Option Addr × Nat × List Int) => (fun (k : Nat) (q : Option Addr) (qc : Nat) (acc : List Int) => 8 - k) (xτ.1) (xτ.2.1) (xτ.2.2.1) (xτ.2.2.2)) ((0, some ⟨b2, 0, none⟩, 0, ([] : List Int))) ⟨⟨by omega, rfl⟩, ?_, ?_⟩ ?_
   · exact hF.restrict ⟨(by kernel_rfl), (by kernel_rfl), (by kernel_rfl), (congrArg some (by first | rfl | exact congrArg (Value.int _) (by omega) | simp)), (congrArg some (by first | rfl | exact congrArg (Value.int _) (by omega) | simp)), trivial⟩
   · exact hO.sub (.cons_cons _ (.cons_cons _ (List.nil_sublist _)))
   clear hF hO; rintro ⟨k, q, qc, acc⟩ a Wl2 ⟨hJ, hF, hO⟩ KhK_2 hK_2
   try dsimp only at hJ
   refine wp_seq_k fun K19 hK19 => ?_
   refine wp_seq_k fun K20 hK20 => ?_
   refine wp_region_lit ?_
   refine Vp hF (.int .i64 (2 * (k : Int))) ?_; clear hF; intro a hF
   refine Vp hF (.bool (decide (2 * (k : Int) < 16))) ?_; clear hF; intro a hF
   refine L_nil ?_
   refine hK20 _ _ ?_
   by_cases q5 : 2 * (k : Int) < 16
   ·
    replace hF := hF.know (d := 37) (v' := .bool true) (by kernel_rfl) (congrArg Value.bool (decide_eq_true q5))
    refine cond_t hF (by kernel_rfl) (by kernel_rfl) ?_
    refine wp_skip ?_
    refine hK19 _ _ ?_
    refine wp_seq_k fun K21 hK21 => ?_
    refine wp_block ?_
    refine A_start (fun Wx => Own W noX [.blk b1 (.cells (ipL x).toArray 33 (0, 0))] Wx) (by kernel_rfl) ?_
    replace hO := hO.drewN 1
    generalize hWd : ({ Wl2 with drawn := Wl2.drawn + 1 } : World) = Wl2_d at hO ⊢; clear hWd
    have hS := hO.sub (.cons _ (.cons_cons _ (List.nil_sublist _)))
    refine Tk 0 rfl hF (.slice q acc.length qc) (fun Wx _ => by kernel_rfl) hS ?_; clear hF; intro a hF
    refine Tk 1 rfl hF (.int .i64 (2 * (k : Int))) (fun Wx _ => by kernel_rfl) hS ?_; clear hF; intro a hF
    refine Tk 2 rfl hF (.pointer (some ⟨b1, 1, none⟩)) (fun Wx _ => by kernel_rfl) hS ?_; clear hF; intro a hF
    refine Tk 3 rfl hF (.pointer (some ⟨b1, 1 + (2 * (k : Int)).toNat * 1, none⟩)) (fun Wx _ => (x_idxPtr (b := b1) (off := 1) (elem := 5) (len := 16) (kd := .i64) (k := 1) (i := 2 * (k : Int)) rfl (by kernel_rfl) (by kernel_rfl) (by kernel_rfl) (by kernel_rfl) (by omega) (by omega))) hS ?_; clear hF; intro a hF
    refine Tk 4 rfl hF (.int .u8 (((x.at ((2 * (k : Int)).toNat)).toNat : Int))) (fun Wx hO => x_load (p := .pointer (some ⟨b1, 1 + (2 * (k : Int)).toNat * 1, none⟩)) rfl (by kernel_rfl) (run_load_ip hO List.mem_cons_self (by kernel_rfl) (by (first | omega | (simp only [List.length_set, List.length_take, List.length_drop, List.length_append, List.length_cons, List.length_nil]; done) | (simp only [List.length_set, List.length_take, List.length_drop, List.length_append, List.length_cons, List.length_nil]; omega) | (simp only [List.length_set, List.length_take, List.length_drop, List.length_append, List.length_cons, List.length_nil] at *; omega))))) hS ?_; clear hF; intro a hF
    refine Tk 5 rfl hF (.int .i64 (((x.at ((2 * (k : Int)).toNat)).toNat : Int))) (fun Wx _ => (x_int (x := IntKind.i64.wrap (((x.at ((2 * (k : Int)).toNat)).toNat : Int))) (i64In (by have := UInt8.toNat_lt (x.at ((2 * (k : Int)).toNat)); omega) (by have := UInt8.toNat_lt (x.at ((2 * (k : Int)).toNat)); omega)) (by kernel_rfl))) hS ?_; clear hF; intro a hF
    refine Tk 6 rfl hF (.int .i64 (((x.at ((2 * (k : Int)).toNat)).toNat : Int) * 256)) (fun Wx _ => (x_int (x := IntKind.i64.wrap (((x.at ((2 * (k : Int)).toNat)).toNat : Int) * 256)) (i64In (by (first | omega | (have hq := UInt8.toNat_lt (x.at i); omega) | (have hq := UInt8.toNat_lt (x.at (2 * (k : Int)).toNat); have hq2 := UInt8.toNat_lt (x.at (2 * (k : Int) + 1).toNat); omega) | (have hq2 := (atN_lt x j); omega) | (have hal := congrArg List.length hJ.2; rw [nums8_len] at hal; (try simp only [maxLen] at *); omega) | (have hz := hZ.1; omega) | (have t1 := fourT_len x i hI.1; have t2 := numT_len (b := 10) (by omega) ((x.at i).toNat + 1) (x.at i).toNat (by omega); have t3 := UInt8.toNat_lt (x.at i); have t4 : s.size = (fourT x i).length := (by rw [hI.2]; rfl); (try simp only [ByteArray.size_append] at *); (try simp only [ByteArray.size, List.size_toArray, List.length_cons, List.length_nil] at *); omega) | (have t1 := fmtI_len hS; have t2 := numT_len (b := 16) (by omega) (atN x j + 1) (atN x j) (by omega); have t3 := atN_lt x j; (try simp only [ByteArray.size_append] at *); (try simp only [ByteArray.size, List.size_toArray, List.length_cons, List.length_nil] at *); omega))) (by (first | omega | (have hq := UInt8.toNat_lt (x.at i); omega) | (have hq := UInt8.toNat_lt (x.at (2 * (k : Int)).toNat); have hq2 := UInt8.toNat_lt (x.at (2 * (k : Int) + 1).toNat); omega) | (have hq2 := (atN_lt x j); omega) | (have hal := congrArg List.length hJ.2; rw [nums8_len] at hal; (try simp only [maxLen] at *); omega) | (have hz := hZ.1; omega) | (have t1 := fourT_len x i hI.1; have t2 := numT_len (b := 10) (by omega) ((x.at i).toNat + 1) (x.at i).toNat (by omega); have t3 := UInt8.toNat_lt (x.at i); have t4 : s.size = (fourT x i).length := (by rw [hI.2]; rfl); (try simp only [ByteArray.size_append] at *); (try simp only [ByteArray.size, List.size_toArray, List.length_cons, List.length_nil] at *); omega) | (have t1 := fmtI_len hS; have t2 := numT_len (b := 16) (by omega) (atN x j + 1) (atN x j) (by omega); have t3 := atN_lt x j; (try simp only [ByteArray.size_append] at *); (try simp only [ByteArray.size, List.size_toArray, List.length_cons, List.length_nil] at *); omega)))) (by kernel_rfl))) hS ?_; clear hF; intro a hF
    refine Tk 7 rfl hF (.int .i64 (2 * (k : Int))) (fun Wx _ => by kernel_rfl) hS ?_; clear hF; intro a hF
    refine Tk 8 rfl hF (.int .i64 (2 * (k : Int) + 1)) (fun Wx _ => (x_int (x := IntKind.i64.wrap (2 * (k : Int) + 1)) (i64In (by omega) (by omega)) (by kernel_rfl))) hS ?_; clear hF; intro a hF
    refine Tk 9 rfl hF (.pointer (some ⟨b1, 1, none⟩)) (fun Wx _ => by kernel_rfl) hS ?_; clear hF; intro a hF
    refine Tk 10 rfl hF (.pointer (some ⟨b1, 1 + (2 * (k : Int) + 1).toNat * 1, none⟩)) (fun Wx _ => (x_idxPtr (b := b1) (off := 1) (elem := 5) (len := 16) (kd := .i64) (k := 1) (i := 2 * (k : Int) + 1) rfl (by kernel_rfl) (by kernel_rfl) (by kernel_rfl) (by kernel_rfl) (by omega) (by omega))) hS ?_; clear hF; intro a hF
    refine Tk 11 rfl hF (.int .u8 (((x.at ((2 * (k : Int) + 1).toNat)).toNat : Int))) (fun Wx hO => x_load (p := .pointer (some ⟨b1, 1 + (2 * (k : Int) + 1).toNat * 1, none⟩)) rfl (by kernel_rfl) (run_load_ip hO List.mem_cons_self (by kernel_rfl) (by (first | omega | (simp only [List.length_set, List.length_take, List.length_drop, List.length_append, List.length_cons, List.length_nil]; done) | (simp only [List.length_set, List.length_take, List.length_drop, List.length_append, List.length_cons, List.length_nil]; omega) | (simp only [List.length_set, List.length_take, List.length_drop, List.length_append, List.length_cons, List.length_nil] at *; omega))))) hS ?_; clear hF; intro a hF
    refine Tk 12 rfl hF (.int .i64 (((x.at ((2 * (k : Int) + 1).toNat)).toNat : Int))) (fun Wx _ => (x_int (x := IntKind.i64.wrap (((x.at ((2 * (k : Int) + 1).toNat)).toNat : Int))) (i64In (by have := UInt8.toNat_lt (x.at ((2 * (k : Int) + 1).toNat)); omega) (by have := UInt8.toNat_lt (x.at ((2 * (k : Int) + 1).toNat)); omega)) (by kernel_rfl))) hS ?_; clear hF; intro a hF
    refine Tk 13 rfl hF (.int .i64 (((x.at ((2 * (k : Int)).toNat)).toNat : Int) * 256 + ((x.at ((2 * (k : Int) + 1).toNat)).toNat : Int))) (fun Wx _ => (x_int (x := IntKind.i64.wrap (((x.at ((2 * (k : Int)).toNat)).toNat : Int) * 256 + ((x.at ((2 * (k : Int) + 1).toNat)).toNat : Int))) (i64In (by (first | omega | (have hq := UInt8.toNat_lt (x.at i); omega) | (have hq := UInt8.toNat_lt (x.at (2 * (k : Int)).toNat); have hq2 := UInt8.toNat_lt (x.at (2 * (k : Int) + 1).toNat); omega) | (have hq2 := (atN_lt x j); omega) | (have hal := congrArg List.length hJ.2; rw [nums8_len] at hal; (try simp only [maxLen] at *); omega) | (have hz := hZ.1; omega) | (have t1 := fourT_len x i hI.1; have t2 := numT_len (b := 10) (by omega) ((x.at i).toNat + 1) (x.at i).toNat (by omega); have t3 := UInt8.toNat_lt (x.at i); have t4 : s.size = (fourT x i).length := (by rw [hI.2]; rfl); (try simp only [ByteArray.size_append] at *); (try simp only [ByteArray.size, List.size_toArray, List.length_cons, List.length_nil] at *); omega) | (have t1 := fmtI_len hS; have t2 := numT_len (b := 16) (by omega) (atN x j + 1) (atN x j) (by omega); have t3 := atN_lt x j; (try simp only [ByteArray.size_append] at *); (try simp only [ByteArray.size, List.size_toArray, List.length_cons, List.length_nil] at *); omega))) (by (first | omega | (have hq := UInt8.toNat_lt (x.at i); omega) | (have hq := UInt8.toNat_lt (x.at (2 * (k : Int)).toNat); have hq2 := UInt8.toNat_lt (x.at (2 * (k : Int) + 1).toNat); omega) | (have hq2 := (atN_lt x j); omega) | (have hal := congrArg List.length hJ.2; rw [nums8_len] at hal; (try simp only [maxLen] at *); omega) | (have hz := hZ.1; omega) | (have t1 := fourT_len x i hI.1; have t2 := numT_len (b := 10) (by omega) ((x.at i).toNat + 1) (x.at i).toNat (by omega); have t3 := UInt8.toNat_lt (x.at i); have t4 : s.size = (fourT x i).length := (by rw [hI.2]; rfl); (try simp only [ByteArray.size_append] at *); (try simp only [ByteArray.size, List.size_toArray, List.length_cons, List.length_nil] at *); omega) | (have t1 := fmtI_len hS; have t2 := numT_len (b := 16) (by omega) (atN x j + 1) (atN x j) (by omega); have t3 := atN_lt x j; (try simp only [ByteArray.size_append] at *); (try simp only [ByteArray.size, List.size_toArray, List.length_cons, List.length_nil] at *); omega)))) (by kernel_rfl))) hS ?_; clear hF; intro a hF
    refine A_one (i := 14) (listed' := #[true, true, true, true, true, true, true, true, true, true, true, true, true, true, true, false, false]) (by kernel_rfl) rfl (by kernel_rfl) ?_
    refine OpK.new hF hO (by kernel_rfl) (by kernel_rfl) (vf := fun b => .slice (some ⟨b, 0, none⟩) 1 1) (ob := .cells #[.int .i64 (((x.at ((2 * (k : Int)).toNat)).toNat : Int) * 256 + ((x.at ((2 * (k : Int) + 1).toNat)).toNat : Int))] 3) (by kernel_rfl) (by kernel_rfl) ?_
    clear hF hO; intro b3 W6 a hO hF
    refine ⟨hO.sub (.cons _ (.cons _ (.cons_cons _ (List.nil_sublist _)))), ?_⟩
    refine A_one (i := 15) (listed' := #[true, true, true, true, true, true, true, true, true, true, true, true, true, true, true, true, false]) (by kernel_rfl) rfl (by kernel_rfl) ?_
    obtain ⟨p1, cap1, W7, hap, hO1, -⟩ := run_append_row (P := Tryz.prog) (ty := 105) (t := 105) (z := .int .i64 0) (k := 1) (bytes := 8) (q := some ⟨b3, 0, none⟩) (ys := ([((x.at ((2 * (k : Int)).toNat)).toNat : Int) * 256 + ((x.at ((2 * (k : Int) + 1).toNat)).toNat : Int)] : List Int)) (cq := 1) hO (.tail (.head _)) (by kernel_rfl) (by kernel_rfl) (by kernel_rfl) (by decide) (fun _ => rfl) (fun _ => rfl) (SlAt.blk hO List.mem_cons_self (by kernel_rfl)) (by (try simp only [List.length_append, List.length_take, List.length_drop, List.length_cons, List.length_nil, maxLen]); (first | omega | (have hq := UInt8.toNat_lt (x.at i); omega) | (have hq := UInt8.toNat_lt (x.at (2 * (k : Int)).toNat); have hq2 := UInt8.toNat_lt (x.at (2 * (k : Int) + 1).toNat); omega) | (have hq2 := (atN_lt x j); omega) | (have hal := congrArg List.length hJ.2; rw [nums8_len] at hal; (try simp only [maxLen] at *); omega) | (have hz := hZ.1; omega) | (have t1 := fourT_len x i hI.1; have t2 := numT_len (b := 10) (by omega) ((x.at i).toNat + 1) (x.at i).toNat (by omega); have t3 := UInt8.toNat_lt (x.at i); have t4 : s.size = (fourT x i).length := (by rw [hI.2]; rfl); (try simp only [ByteArray.size_append] at *); (try simp only [ByteArray.size, List.size_toArray, List.length_cons, List.length_nil] at *); omega) | (have t1 := fmtI_len hS; have t2 := numT_len (b := 16) (by omega) (atN x j + 1) (atN x j) (by omega); have t3 := atN_lt x j; (try simp only [ByteArray.size_append] at *); (try simp only [ByteArray.size, List.size_toArray, List.length_cons, List.length_nil] at *); omega))) (by (try simp only [List.length_append, List.length_take, List.length_drop, List.length_cons, List.length_nil, maxLen]); (first | omega | (have hq := UInt8.toNat_lt (x.at i); omega) | (have hq := UInt8.toNat_lt (x.at (2 * (k : Int)).toNat); have hq2 := UInt8.toNat_lt (x.at (2 * (k : Int) + 1).toNat); omega) | (have hq2 := (atN_lt x j); omega) | (have hal := congrArg List.length hJ.2; rw [nums8_len] at hal; (try simp only [maxLen] at *); omega) | (have hz := hZ.1; omega) | (have t1 := fourT_len x i hI.1; have t2 := numT_len (b := 10) (by omega) ((x.at i).toNat + 1) (x.at i).toNat (by omega); have t3 := UInt8.toNat_lt (x.at i); have t4 : s.size = (fourT x i).length := (by rw [hI.2]; rfl); (try simp only [ByteArray.size_append] at *); (try simp only [ByteArray.size, List.size_toArray, List.length_cons, List.length_nil] at *); omega) | (have t1 := fmtI_len hS; have t2 := numT_len (b := 16) (by omega) (atN x j + 1) (atN x j) (by omega); have t3 := atN_lt x j; (try simp only [ByteArray.size_append] at *); (try simp only [ByteArray.size, List.size_toArray, List.length_cons, List.length_nil] at *); omega)))
    refine OpK.valW hF (by kernel_rfl) (by kernel_rfl) (x_app hap rfl (by kernel_rfl) (by kernel_rfl) rfl) (by kernel_rfl) ?_
    clear hap hF; intro a hF; replace hO := hO1; clear hO1
    refine ⟨hO.sub (.cons _ (.cons _ (.cons_cons _ (List.nil_sublist _)))), ?_⟩
    have hS := hO.sub (.cons _ (.cons _ (.cons_cons _ (List.nil_sublist _))))
    refine Tk 16 rfl hF (.slice p1 ((acc ++ ([((x.at ((2 * (k : Int)).toNat)).toNat : Int) * 256 + ((x.at ((2 * (k : Int) + 1).toNat)).toNat : Int)] : List Int)).length) cap1) (fun Wx _ => by kernel_rfl) hS ?_; clear hF; intro a hF
    refine A_done (by kernel_rfl) ?_
    refine block_normal ?_
    refine hK21 _ _ ?_
    refine wp_region_lit ?_
    refine Vp hF (.int .i64 (2 * (k : Int))) ?_; clear hF; intro a hF
    refine Vr hF (.int .i64 (2 * (k : Int) + 2)) (x_int (x := IntKind.i64.wrap (2 * (k : Int) + 2)) (i64In (by omega) (by omega)) (by kernel_rfl)) ?_; clear hF; intro a hF
    refine Vp hF (.int .i64 (2 * (k : Int) + 2)) ?_; clear hF; intro a hF
    refine L_nil ?_
    refine hK_2 ((k + 1, p1, cap1, acc ++ ([((x.at ((2 * (k : Int)).toNat)).toNat : Int) * 256 + ((x.at ((2 * (k : Int) + 1).toNat)).toNat : Int)] : List Int))) _ _ (by first | omega | (dsimp only; omega)) ⟨⟨by omega, by rw [hJ.2, ← nums8_next, atN_eq]; rfl⟩, ?_, ?_⟩
    · exact hF.restrict ⟨(by kernel_rfl), (by kernel_rfl), (by kernel_rfl), (congrArg some (by first | rfl | exact congrArg (Value.int _) (by omega) | exact congrArg (Value.int _) (fmtI_gap hBL hS (by assumption) (by assumption)).2.1)), (congrArg some (by first | rfl | exact congrArg (Value.int _) (by omega) | exact congrArg (Value.int _) (fmtI_gap hBL hS (by assumption) (by assumption)).2.1)), trivial⟩
    · exact hO.sub (.cons_cons _ (.cons _ (.cons_cons _ (List.nil_sublist _))))
   ·
    replace hF := hF.know (d := 37) (v' := .bool false) (by kernel_rfl) (congrArg Value.bool (decide_eq_false q5))
    refine cond_f hF (by kernel_rfl) (by kernel_rfl) ?_
    refine wp_exit ?_
    refine then_exit ?_
    refine then_exit ?_
    refine inBlock_hit ?_
    refine hK17 _ _ ?_
    refine wp_seq_k fun K22 hK22 => ?_
    refine wp_region_lit ?_
    refine Vp hF (.int .i64 0) ?_; clear hF; intro a hF
    refine Vp hF (.int .i64 1) ?_; clear hF; intro a hF
    refine L_nil ?_
    refine hK22 _ _ ?_
    refine wp_seq_k fun K23 hK23 => ?_
    refine wp_seq_k fun K24 hK24 => ?_
    refine wp_region_lit ?_
    refine Vp hF (.int .i64 0) ?_; clear hF; intro a hF
    refine L_nil ?_
    refine hK24 _ _ ?_
    refine wp_block ?_
    have hal : acc.length = 8 := by rw [hJ.2, nums8_len]; omega
    refine loopX (τ := Nat × Int × Int) (fun (xτ : Nat × Int × Int) a Wx => (fun (i : Nat) (best : Int) (long : Int) => (i ≤ 8 ∧ BI x i best long) ∧ Fr 121 a [(2, .string (⟨#[]⟩ : ByteArray)), (3, .string (⟨#[]⟩ : ByteArray)), (5, .slice q acc.length qc), (7, .int .i64 (best)), (8, .int .i64 (long)), (9, .int .i64 ((i : Int)))] ∧ Own W noX [rowL i64L 1 3 q qc acc, .blk b1 (.cells (ipL x).toArray 33 (0, 0))] Wx) (xτ.1) (xτ.2.1) (xτ.2.2)) (fun (xτ : Nat × Int × Int) => (fun (i : Nat) (best : Int) (long : Int) => 8 - i) (xτ.1) (xτ.2.1) (xτ.2.2)) ((0, 0, 1)) ⟨⟨by omega, rfl, rfl⟩, ?_, ?_⟩ ?_
    · exact hF.restrict ⟨(by kernel_rfl), (by kernel_rfl), (by kernel_rfl), (congrArg some (by first | rfl | exact congrArg (Value.int _) (by omega) | simp)), (congrArg some (by first | rfl | exact congrArg (Value.int _) (by omega) | simp)), (congrArg some (by first | rfl | exact congrArg (Value.int _) (by omega) | simp)), trivial⟩
    · exact hO.sub (.cons_cons _ (.cons_cons _ (List.nil_sublist _)))
    clear hF hO; rintro ⟨i, best, long⟩ a Wl3 ⟨hB, hF, hO⟩ KhK_3 hK_3
    try dsimp only at hB
    refine wp_seq_k fun K25 hK25 => ?_
    refine wp_seq_k fun K26 hK26 => ?_
    refine wp_region_lit ?_
    refine Vp hF (.int .i64 ((i : Int))) ?_; clear hF; intro a hF
    refine Vp hF (.bool (decide ((i : Int) < 8))) ?_; clear hF; intro a hF
    refine L_nil ?_
    refine hK26 _ _ ?_
    by_cases q6 : (i : Int) < 8
    ·
     replace hF := hF.know (d := 57) (v' := .bool true) (by kernel_rfl) (congrArg Value.bool (decide_eq_true q6))
     refine cond_t hF (by kernel_rfl) (by kernel_rfl) ?_
     refine wp_skip ?_
     refine hK25 _ _ ?_
     refine wp_seq_k fun K27 hK27 => ?_
     refine wp_block ?_
     refine wp_seq_k fun K28 hK28 => ?_
     refine wp_region_lit ?_
     refine Vp hF (.int .i64 0) ?_; clear hF; intro a hF
     refine L_nil ?_
     refine hK28 _ _ ?_
     refine wp_seq_k fun K29 hK29 => ?_
     refine wp_block ?_
     refine loopX (τ := Nat) (fun (n : Nat) a Wx => (ZI x i n) ∧ Fr 121 a [(2, .string (⟨#[]⟩ : ByteArray)), (3, .string (⟨#[]⟩ : ByteArray)), (5, .slice q acc.length qc), (7, .int .i64 (best)), (8, .int .i64 (long)), (9, .int .i64 ((i : Int))), (10, .int .i64 ((n : Int))), (56, .int .i64 ((i : Int))), (57, .bool true)] ∧ Own W noX [rowL i64L 1 3 q qc acc, .blk b1 (.cells (ipL x).toArray 33 (0, 0))] Wx) (fun (n : Nat) => 8 - n) (0) ⟨zi_0 (by omega), ?_, ?_⟩ ?_
     · exact hF.restrict ⟨(by kernel_rfl), (by kernel_rfl), (by kernel_rfl), (by kernel_rfl), (by kernel_rfl), (by kernel_rfl), (congrArg some (by first | rfl | exact congrArg (Value.int _) (by omega) | simp)), (by kernel_rfl), (by kernel_rfl), trivial⟩
     · exact hO.sub (.cons_cons _ (.cons_cons _ (List.nil_sublist _)))
     clear hF hO; rintro n a Wl4 ⟨hZ, hF, hO⟩ KhK_4 hK_4
     try dsimp only at hZ
     refine wp_seq_k fun K30 hK30 => ?_
     refine wp_seq_k fun K31 hK31 => ?_
     refine wp_region_lit ?_
     refine Vp hF (.int .i64 ((i : Int))) ?_; clear hF; intro a hF
     refine Vp hF (.int .i64 ((n : Int))) ?_; clear hF; intro a hF
     refine Vr hF (.int .i64 ((i : Int) + (n : Int))) (x_int (x := IntKind.i64.wrap ((i : Int) + (n : Int))) (i64In (by (first | omega | (have hq := UInt8.toNat_lt (x.at i); omega) | (have hq := UInt8.toNat_lt (x.at (2 * (k : Int)).toNat); have hq2 := UInt8.toNat_lt (x.at (2 * (k : Int) + 1).toNat); omega) | (have hq2 := (atN_lt x j); omega) | (have hal := congrArg List.length hJ.2; rw [nums8_len] at hal; (try simp only [maxLen] at *); omega) | (have hz := hZ.1; omega) | (have t1 := fourT_len x i hI.1; have t2 := numT_len (b := 10) (by omega) ((x.at i).toNat + 1) (x.at i).toNat (by omega); have t3 := UInt8.toNat_lt (x.at i); have t4 : s.size = (fourT x i).length := (by rw [hI.2]; rfl); (try simp only [ByteArray.size_append] at *); (try simp only [ByteArray.size, List.size_toArray, List.length_cons, List.length_nil] at *); omega) | (have t1 := fmtI_len hS; have t2 := numT_len (b := 16) (by omega) (atN x j + 1) (atN x j) (by omega); have t3 := atN_lt x j; (try simp only [ByteArray.size_append] at *); (try simp only [ByteArray.size, List.size_toArray, List.length_cons, List.length_nil] at *); omega))) (by (first | omega | (have hq := UInt8.toNat_lt (x.at i); omega) | (have hq := UInt8.toNat_lt (x.at (2 * (k : Int)).toNat); have hq2 := UInt8.toNat_lt (x.at (2 * (k : Int) + 1).toNat); omega) | (have hq2 := (atN_lt x j); omega) | (have hal := congrArg List.length hJ.2; rw [nums8_len] at hal; (try simp only [maxLen] at *); omega) | (have hz := hZ.1; omega) | (have t1 := fourT_len x i hI.1; have t2 := numT_len (b := 10) (by omega) ((x.at i).toNat + 1) (x.at i).toNat (by omega); have t3 := UInt8.toNat_lt (x.at i); have t4 : s.size = (fourT x i).length := (by rw [hI.2]; rfl); (try simp only [ByteArray.size_append] at *); (try simp only [ByteArray.size, List.size_toArray, List.length_cons, List.length_nil] at *); omega) | (have t1 := fmtI_len hS; have t2 := numT_len (b := 16) (by omega) (atN x j + 1) (atN x j) (by omega); have t3 := atN_lt x j; (try simp only [ByteArray.size_append] at *); (try simp only [ByteArray.size, List.size_toArray, List.length_cons, List.length_nil] at *); omega)))) (by kernel_rfl)) ?_; clear hF; intro a hF
     refine Vp hF (.bool (decide ((i : Int) + (n : Int) < 8))) ?_; clear hF; intro a hF
     refine Vp hF (.bool (decide ((i : Int) + (n : Int) < 8))) ?_; clear hF; intro a hF
     by_cases q7 : (i : Int) + (n : Int) < 8
     ·
      replace hF := hF.know (d := 64) (v' := .bool true) (by kernel_rfl) (congrArg Value.bool (decide_eq_true q7))
      refine Vp hF (.slice q acc.length qc) ?_; clear hF; intro a hF
      refine Vp hF (.int .i64 ((i : Int))) ?_; clear hF; intro a hF
      refine Vp hF (.int .i64 ((n : Int))) ?_; clear hF; intro a hF
      refine Vr hF (.int .i64 ((i : Int) + (n : Int))) (x_int (x := IntKind.i64.wrap ((i : Int) + (n : Int))) (i64In (by omega) (by omega)) (by kernel_rfl)) ?_; clear hF; intro a hF
      refine Vr hF (.pointer (some ⟨(ab q), ao q + (((i : Int) + (n : Int)).toNat) * 1, none⟩)) (x_idxAddrS (p := q) (len := acc.length) (cap := qc) (elem := 3) (kd := .i64) (k := 1) (i := (i : Int) + (n : Int)) rfl (by kernel_rfl) (by kernel_rfl) (by kernel_rfl) (by kernel_rfl) (by omega) (by omega) (SlAt.ne (k := 1) (hO.row List.mem_cons_self) (fun _ => rfl) (by decide) (by (first | omega | (simp only [List.length_set, List.length_take, List.length_drop, List.length_append, List.length_cons, List.length_nil]; done) | (simp only [List.length_set, List.length_take, List.length_drop, List.length_append, List.length_cons, List.length_nil]; omega) | (simp only [List.length_set, List.length_take, List.length_drop, List.length_append, List.length_cons, List.length_nil] at *; omega)) : ((i : Int) + (n : Int)).toNat < acc.length))) ?_; clear hF; intro a hF
      refine Vr hF (.int .i64 ((atN x (i + n) : Int))) (x_load (p := .pointer (some ⟨(ab q), ao q + (((i : Int) + (n : Int)).toNat) * 1, none⟩)) rfl (by kernel_rfl) (run_loadEl1 (by kernel_rfl) (hO.row List.mem_cons_self) (fun _ => rfl) (by (first | omega | (simp only [List.length_set, List.length_take, List.length_drop, List.length_append, List.length_cons, List.length_nil]; done) | (simp only [List.length_set, List.length_take, List.length_drop, List.length_append, List.length_cons, List.length_nil]; omega) | (simp only [List.length_set, List.length_take, List.length_drop, List.length_append, List.length_cons, List.length_nil] at *; omega))) (g_at hJ.2 (by omega) (by omega) (by omega)))) ?_; clear hF; intro a hF
      refine Vp hF (.bool ((atN x (i + n) : Int) == 0)) ?_; clear hF; intro a hF
      refine Vp hF (.bool ((atN x (i + n) : Int) == 0)) ?_; clear hF; intro a hF
      refine L_nil ?_
      refine hK31 _ _ ?_
      by_cases q8 : (atN x (i + n) : Int) = 0
      ·
       replace hF := hF.know (d := 72) (v' := .bool true) (by kernel_rfl) (congrArg Value.bool (eqT q8))
       refine cond_t hF (by kernel_rfl) (by kernel_rfl) ?_
       refine wp_skip ?_
       refine hK30 _ _ ?_
       refine wp_block ?_
       refine wp_region_lit ?_
       refine Vp hF (.int .i64 ((n : Int))) ?_; clear hF; intro a hF
       refine Vr hF (.int .i64 ((n : Int) + 1)) (x_int (x := IntKind.i64.wrap ((n : Int) + 1)) (i64In (by omega) (by omega)) (by kernel_rfl)) ?_; clear hF; intro a hF
       refine Vp hF (.int .i64 ((n : Int) + 1)) ?_; clear hF; intro a hF
       refine L_nil ?_
       refine block_normal ?_
       refine hK_4 (n + 1) _ _ (by have := hZ.1; omega) ⟨zi_next hZ (by omega) (by assumption), ?_, ?_⟩
       · exact hF.restrict ⟨(by kernel_rfl), (by kernel_rfl), (by kernel_rfl), (by kernel_rfl), (by kernel_rfl), (by kernel_rfl), (congrArg some (by first | rfl | exact congrArg (Value.int _) (by omega) | exact congrArg (Value.int _) (fmtI_gap hBL hS (by assumption) (by assumption)).2.1)), (by kernel_rfl), (by kernel_rfl), trivial⟩
       · exact hO.sub (.cons_cons _ (.cons_cons _ (List.nil_sublist _)))
      ·
       replace hF := hF.know (d := 72) (v' := .bool false) (by kernel_rfl) (congrArg Value.bool (eqF q8))
       refine cond_f hF (by kernel_rfl) (by kernel_rfl) ?_
       refine wp_exit ?_
       refine then_exit ?_
       refine then_exit ?_
       refine inBlock_hit ?_
       refine hK29 _ _ ?_
       refine wp_seq_k fun K32 hK32 => ?_
       refine wp_region_lit ?_
       refine Vp hF (.int .i64 ((n : Int))) ?_; clear hF; intro a hF
       refine Vp hF (.int .i64 (long)) ?_; clear hF; intro a hF
       refine Vp hF (.bool (decide ((n : Int) > long))) ?_; clear hF; intro a hF
       refine L_nil ?_
       refine hK32 _ _ ?_
       by_cases q9 : (n : Int) > long
       ·
        replace hF := hF.know (d := 77) (v' := .bool true) (by kernel_rfl) (congrArg Value.bool (decide_eq_true q9))
        refine cond_t hF (by kernel_rfl) (by kernel_rfl) ?_
        refine wp_region_lit ?_
        refine Vp hF (.int .i64 ((i : Int))) ?_; clear hF; intro a hF
        refine Vp hF (.int .i64 ((n : Int))) ?_; clear hF; intro a hF
        refine Vp hF (.int .i64 ((i : Int))) ?_; clear hF; intro a hF
        refine Vp hF (.int .i64 ((n : Int))) ?_; clear hF; intro a hF
        refine L_nil ?_
        refine block_normal ?_
        refine hK27 _ _ ?_
        refine wp_region_lit ?_
        refine Vp hF (.int .i64 ((i : Int))) ?_; clear hF; intro a hF
        refine Vr hF (.int .i64 ((i : Int) + 1)) (x_int (x := IntKind.i64.wrap ((i : Int) + 1)) (i64In (by omega) (by omega)) (by kernel_rfl)) ?_; clear hF; intro a hF
        refine Vp hF (.int .i64 ((i : Int) + 1)) ?_; clear hF; intro a hF
        refine L_nil ?_
        refine hK_3 ((i + 1, (i : Int), (n : Int))) _ _ (by first | omega | (dsimp only; omega)) ⟨⟨by dsimp only; omega, bi_next hB.2 (zi_end hZ (fun _ => by first | assumption | (intro; omega))) (by dsimp only; omega)⟩, ?_, ?_⟩
        · exact hF.restrict ⟨(by kernel_rfl), (by kernel_rfl), (by kernel_rfl), (congrArg some (by first | rfl | exact congrArg (Value.int _) (by omega) | exact congrArg (Value.int _) (fmtI_gap hBL hS (by assumption) (by assumption)).2.1)), (congrArg some (by first | rfl | exact congrArg (Value.int _) (by omega) | exact congrArg (Value.int _) (fmtI_gap hBL hS (by assumption) (by assumption)).2.1)), (congrArg some (by first | rfl | exact congrArg (Value.int _) (by omega) | exact congrArg (Value.int _) (fmtI_gap hBL hS (by assumption) (by assumption)).2.1)), trivial⟩
        · exact hO.sub (.cons_cons _ (.cons_cons _ (List.nil_sublist _)))
       ·
        replace hF := hF.know (d := 77) (v' := .bool false) (by kernel_rfl) (congrArg Value.bool (decide_eq_false q9))
        refine cond_f hF (by kernel_rfl) (by kernel_rfl) ?_
        refine wp_skip ?_
        refine block_normal ?_
        refine hK27 _ _ ?_
        refine wp_region_lit ?_
        refine Vp hF (.int .i64 ((i : Int))) ?_; clear hF; intro a hF
        refine Vr hF (.int .i64 ((i : Int) + 1)) (x_int (x := IntKind.i64.wrap ((i : Int) + 1)) (i64In (by omega) (by omega)) (by kernel_rfl)) ?_; clear hF; intro a hF
        refine Vp hF (.int .i64 ((i : Int) + 1)) ?_; clear hF; intro a hF
        refine L_nil ?_
        refine hK_3 ((i + 1, best, long)) _ _ (by first | omega | (dsimp only; omega)) ⟨⟨by dsimp only; omega, bi_next hB.2 (zi_end hZ (fun _ => by first | assumption | (intro; omega))) (by dsimp only; omega)⟩, ?_, ?_⟩
        · exact hF.restrict ⟨(by kernel_rfl), (by kernel_rfl), (by kernel_rfl), (congrArg some (by first | rfl | exact congrArg (Value.int _) (by omega) | exact congrArg (Value.int _) (fmtI_gap hBL hS (by assumption) (by assumption)).2.1)), (congrArg some (by first | rfl | exact congrArg (Value.int _) (by omega) | exact congrArg (Value.int _) (fmtI_gap hBL hS (by assumption) (by assumption)).2.1)), (congrArg some (by first | rfl | exact congrArg (Value.int _) (by omega) | exact congrArg (Value.int _) (fmtI_gap hBL hS (by assumption) (by assumption)).2.1)), trivial⟩
        · exact hO.sub (.cons_cons _ (.cons_cons _ (List.nil_sublist _)))
     ·
      replace hF := hF.know (d := 64) (v' := .bool false) (by kernel_rfl) (congrArg Value.bool (decide_eq_false q7))
      refine Lo hF ?_; clear hF; intro a hF
      refine Lo hF ?_; clear hF; intro a hF
      refine Lo hF ?_; clear hF; intro a hF
      refine Lo hF ?_; clear hF; intro a hF
      refine Lo hF ?_; clear hF; intro a hF
      refine Lo hF ?_; clear hF; intro a hF
      refine Lo hF ?_; clear hF; intro a hF
      refine Vp hF (.bool false) ?_; clear hF; intro a hF
      refine L_nil ?_
      refine hK31 _ _ ?_
      refine cond_f hF (by kernel_rfl) (by kernel_rfl) ?_
      refine wp_exit ?_
      refine then_exit ?_
      refine then_exit ?_
      refine inBlock_hit ?_
      refine hK29 _ _ ?_
      refine wp_seq_k fun K33 hK33 => ?_
      refine wp_region_lit ?_
      refine Vp hF (.int .i64 ((n : Int))) ?_; clear hF; intro a hF
      refine Vp hF (.int .i64 (long)) ?_; clear hF; intro a hF
      refine Vp hF (.bool (decide ((n : Int) > long))) ?_; clear hF; intro a hF
      refine L_nil ?_
      refine hK33 _ _ ?_
      by_cases q10 : (n : Int) > long
      ·
       replace hF := hF.know (d := 77) (v' := .bool true) (by kernel_rfl) (congrArg Value.bool (decide_eq_true q10))
       refine cond_t hF (by kernel_rfl) (by kernel_rfl) ?_
       refine wp_region_lit ?_
       refine Vp hF (.int .i64 ((i : Int))) ?_; clear hF; intro a hF
       refine Vp hF (.int .i64 ((n : Int))) ?_; clear hF; intro a hF
       refine Vp hF (.int .i64 ((i : Int))) ?_; clear hF; intro a hF
       refine Vp hF (.int .i64 ((n : Int))) ?_; clear hF; intro a hF
       refine L_nil ?_
       refine block_normal ?_
       refine hK27 _ _ ?_
       refine wp_region_lit ?_
       refine Vp hF (.int .i64 ((i : Int))) ?_; clear hF; intro a hF
       refine Vr hF (.int .i64 ((i : Int) + 1)) (x_int (x := IntKind.i64.wrap ((i : Int) + 1)) (i64In (by omega) (by omega)) (by kernel_rfl)) ?_; clear hF; intro a hF
       refine Vp hF (.int .i64 ((i : Int) + 1)) ?_; clear hF; intro a hF
       refine L_nil ?_
       refine hK_3 ((i + 1, (i : Int), (n : Int))) _ _ (by first | omega | (dsimp only; omega)) ⟨⟨by dsimp only; omega, bi_next hB.2 (zi_end hZ (fun _ => by first | assumption | (intro; omega))) (by dsimp only; omega)⟩, ?_, ?_⟩
       · exact hF.restrict ⟨(by kernel_rfl), (by kernel_rfl), (by kernel_rfl), (congrArg some (by first | rfl | exact congrArg (Value.int _) (by omega) | exact congrArg (Value.int _) (fmtI_gap hBL hS (by assumption) (by assumption)).2.1)), (congrArg some (by first | rfl | exact congrArg (Value.int _) (by omega) | exact congrArg (Value.int _) (fmtI_gap hBL hS (by assumption) (by assumption)).2.1)), (congrArg some (by first | rfl | exact congrArg (Value.int _) (by omega) | exact congrArg (Value.int _) (fmtI_gap hBL hS (by assumption) (by assumption)).2.1)), trivial⟩
       · exact hO.sub (.cons_cons _ (.cons_cons _ (List.nil_sublist _)))
      ·
       replace hF := hF.know (d := 77) (v' := .bool false) (by kernel_rfl) (congrArg Value.bool (decide_eq_false q10))
       refine cond_f hF (by kernel_rfl) (by kernel_rfl) ?_
       refine wp_skip ?_
       refine block_normal ?_
       refine hK27 _ _ ?_
       refine wp_region_lit ?_
       refine Vp hF (.int .i64 ((i : Int))) ?_; clear hF; intro a hF
       refine Vr hF (.int .i64 ((i : Int) + 1)) (x_int (x := IntKind.i64.wrap ((i : Int) + 1)) (i64In (by omega) (by omega)) (by kernel_rfl)) ?_; clear hF; intro a hF
       refine Vp hF (.int .i64 ((i : Int) + 1)) ?_; clear hF; intro a hF
       refine L_nil ?_
       refine hK_3 ((i + 1, best, long)) _ _ (by first | omega | (dsimp only; omega)) ⟨⟨by dsimp only; omega, bi_next hB.2 (zi_end hZ (fun _ => by first | assumption | (intro; omega))) (by dsimp only; omega)⟩, ?_, ?_⟩
       · exact hF.restrict ⟨(by kernel_rfl), (by kernel_rfl), (by kernel_rfl), (congrArg some (by first | rfl | exact congrArg (Value.int _) (by omega) | exact congrArg (Value.int _) (fmtI_gap hBL hS (by assumption) (by assumption)).2.1)), (congrArg some (by first | rfl | exact congrArg (Value.int _) (by omega) | exact congrArg (Value.int _) (fmtI_gap hBL hS (by assumption) (by assumption)).2.1)), (congrArg some (by first | rfl | exact congrArg (Value.int _) (by omega) | exact congrArg (Value.int _) (fmtI_gap hBL hS (by assumption) (by assumption)).2.1)), trivial⟩
       · exact hO.sub (.cons_cons _ (.cons_cons _ (List.nil_sublist _)))
    ·
     replace hF := hF.know (d := 57) (v' := .bool false) (by kernel_rfl) (congrArg Value.bool (decide_eq_false q6))
     refine cond_f hF (by kernel_rfl) (by kernel_rfl) ?_
     refine wp_exit ?_
     refine then_exit ?_
     refine then_exit ?_
     refine inBlock_hit ?_
     refine hK23 _ _ ?_
     refine wp_seq_k fun K34 hK34 => ?_
     refine wp_seq_k fun K35 hK35 => ?_
     refine wp_region_lit ?_
     refine Vp hF (.int .i64 0) ?_; clear hF; intro a hF
     refine L_nil ?_
     refine hK35 _ _ ?_
     refine wp_block ?_
     have hBL : BL x best long := by obtain rfl : i = 8 := (by omega); exact hB.2
     have hbl := bl_gap hBL
     refine loopX (τ := Nat × ByteArray) (fun (xτ : Nat × ByteArray) a Wx => (fun (j : Nat) (s : ByteArray) => (FmtI x j s) ∧ Fr 121 a [(2, .string (⟨#[]⟩ : ByteArray)), (3, .string s), (5, .slice q acc.length qc), (7, .int .i64 (best)), (8, .int .i64 (long)), (11, .int .i64 ((j : Int)))] ∧ Own W noX [rowL i64L 1 3 q qc acc, .blk b1 (.cells (ipL x).toArray 33 (0, 0))] Wx) (xτ.1) (xτ.2)) (fun (xτ : Nat × ByteArray) => (fun (j : Nat) (s : ByteArray) => 8 - j) (xτ.1) (xτ.2)) ((0, ⟨#[]⟩)) ⟨fmtI_0 x, ?_, ?_⟩ ?_
     · exact hF.restrict ⟨(by kernel_rfl), (congrArg some (by first | rfl | exact congrArg (Value.int _) (by omega) | simp)), (by kernel_rfl), (by kernel_rfl), (by kernel_rfl), (congrArg some (by first | rfl | exact congrArg (Value.int _) (by omega) | simp)), trivial⟩
     · exact hO.sub (.cons_cons _ (.cons_cons _ (List.nil_sublist _)))
     clear hF hO; rintro ⟨j, s⟩ a Wl5 ⟨hS, hF, hO⟩ KhK_5 hK_5
     try dsimp only at hS
     refine wp_seq_k fun K36 hK36 => ?_
     refine wp_seq_k fun K37 hK37 => ?_
     refine wp_region_lit ?_
     refine Vp hF (.int .i64 ((j : Int))) ?_; clear hF; intro a hF
     refine Vp hF (.bool (decide ((j : Int) < 8))) ?_; clear hF; intro a hF
     refine L_nil ?_
     refine hK37 _ _ ?_
     by_cases q11 : (j : Int) < 8
     ·
      replace hF := hF.know (d := 81) (v' := .bool true) (by kernel_rfl) (congrArg Value.bool (decide_eq_true q11))
      refine cond_t hF (by kernel_rfl) (by kernel_rfl) ?_
      refine wp_skip ?_
      refine hK36 _ _ ?_
      refine wp_seq_k fun K38 hK38 => ?_
      refine wp_block ?_
      refine wp_seq_k fun K39 hK39 => ?_
      refine wp_seq_k fun K40 hK40 => ?_
      refine wp_region_lit ?_
      refine Vp hF (.int .i64 (long)) ?_; clear hF; intro a hF
      refine Vp hF (.bool (decide (long > 1))) ?_; clear hF; intro a hF
      refine Vp hF (.bool (decide (long > 1))) ?_; clear hF; intro a hF
      by_cases q12 : long > 1
      ·
       replace hF := hF.know (d := 86) (v' := .bool true) (by kernel_rfl) (congrArg Value.bool (decide_eq_true q12))
       refine Vp hF (.int .i64 ((j : Int))) ?_; clear hF; intro a hF
       refine Vp hF (.int .i64 (best)) ?_; clear hF; intro a hF
       refine Vp hF (.bool ((j : Int) == best)) ?_; clear hF; intro a hF
       refine Vp hF (.bool ((j : Int) == best)) ?_; clear hF; intro a hF
       refine L_nil ?_
       refine hK40 _ _ ?_
       by_cases q13 : (j : Int) = best
       ·
        replace hF := hF.know (d := 90) (v' := .bool true) (by kernel_rfl) (congrArg Value.bool (eqT q13))
        refine cond_t hF (by kernel_rfl) (by kernel_rfl) ?_
        refine wp_seq_k fun K41 hK41 => ?_
        refine wp_region_lit ?_
        refine Vp hF (.string s) ?_; clear hF; intro a hF
        refine Vr hF (.string (s ++ (⟨#[58, 58]⟩ : ByteArray))) (x_cat (s := s) (t := (⟨#[58, 58]⟩ : ByteArray)) rfl (by kernel_rfl) (by kernel_rfl) (by (first | omega | (have hq := UInt8.toNat_lt (x.at i); omega) | (have hq := UInt8.toNat_lt (x.at (2 * (k : Int)).toNat); have hq2 := UInt8.toNat_lt (x.at (2 * (k : Int) + 1).toNat); omega) | (have hq2 := (atN_lt x j); omega) | (have hal := congrArg List.length hJ.2; rw [nums8_len] at hal; (try simp only [maxLen] at *); omega) | (have hz := hZ.1; omega) | (have t1 := fourT_len x i hI.1; have t2 := numT_len (b := 10) (by omega) ((x.at i).toNat + 1) (x.at i).toNat (by omega); have t3 := UInt8.toNat_lt (x.at i); have t4 : s.size = (fourT x i).length := (by rw [hI.2]; rfl); (try simp only [ByteArray.size_append] at *); (try simp only [ByteArray.size, List.size_toArray, List.length_cons, List.length_nil] at *); omega) | (have t1 := fmtI_len hS; have t2 := numT_len (b := 16) (by omega) (atN x j + 1) (atN x j) (by omega); have t3 := atN_lt x j; (try simp only [ByteArray.size_append] at *); (try simp only [ByteArray.size, List.size_toArray, List.length_cons, List.length_nil] at *); omega)))) ?_; clear hF; intro a hF
        refine Vp hF (.string (s ++ (⟨#[58, 58]⟩ : ByteArray))) ?_; clear hF; intro a hF
        refine L_nil ?_
        refine hK41 _ _ ?_
        refine wp_seq_k fun K42 hK42 => ?_
        refine wp_region_lit ?_
        refine Vp hF (.int .i64 ((j : Int))) ?_; clear hF; intro a hF
        refine Vp hF (.int .i64 (long)) ?_; clear hF; intro a hF
        refine Vr hF (.int .i64 (long - 1)) (x_int (x := IntKind.i64.wrap (long - 1)) (i64In (by omega) (by omega)) (by kernel_rfl)) ?_; clear hF; intro a hF
        refine Vr hF (.int .i64 ((j : Int) + (long - 1))) (x_int (x := IntKind.i64.wrap ((j : Int) + (long - 1))) (i64In (by omega) (by omega)) (by kernel_rfl)) ?_; clear hF; intro a hF
        refine Vp hF (.int .i64 ((j : Int) + (long - 1))) ?_; clear hF; intro a hF
        refine L_nil ?_
        refine hK42 _ _ ?_
        refine wp_exit ?_
        refine then_exit ?_
        refine inBlock_hit ?_
        refine hK38 _ _ ?_
        refine wp_region_lit ?_
        refine Vp hF (.int .i64 ((j : Int) + (long - 1))) ?_; clear hF; intro a hF
        refine Vr hF (.int .i64 ((j : Int) + (long - 1) + 1)) (x_int (x := IntKind.i64.wrap ((j : Int) + (long - 1) + 1)) (i64In (by omega) (by omega)) (by kernel_rfl)) ?_; clear hF; intro a hF
        refine Vp hF (.int .i64 ((j : Int) + (long - 1) + 1)) ?_; clear hF; intro a hF
        refine L_nil ?_
        refine hK_5 ((gapF x + gapM x, s ++ (⟨#[58, 58]⟩ : ByteArray))) _ _ (by first | (dsimp only; omega) | (have h1 := (fmtI_gap hBL hS (by assumption) (by assumption)).2.2; have h2 := (gap x).1; dsimp only; omega)) ⟨(by dsimp only; first | exact (fmtI_gap hBL hS (by assumption) (by assumption)).1 | exact fmtI_colon hBL hS (by assumption) (by omega) (by assumption) (by omega) rfl | exact fmtI_plain hBL hS (by assumption) (by omega) (by omega) rfl), ?_, ?_⟩
        · exact hF.restrict ⟨(by kernel_rfl), (congrArg some (by first | rfl | exact congrArg (Value.int _) (by omega) | exact congrArg (Value.int _) (fmtI_gap hBL hS (by assumption) (by assumption)).2.1)), (by kernel_rfl), (by kernel_rfl), (by kernel_rfl), (congrArg some (by first | rfl | exact congrArg (Value.int _) (by omega) | exact congrArg (Value.int _) (fmtI_gap hBL hS (by assumption) (by assumption)).2.1)), trivial⟩
        · exact hO.sub (.cons_cons _ (.cons_cons _ (List.nil_sublist _)))
       ·
        replace hF := hF.know (d := 90) (v' := .bool false) (by kernel_rfl) (congrArg Value.bool (eqF q13))
        refine cond_f hF (by kernel_rfl) (by kernel_rfl) ?_
        refine wp_skip ?_
        refine hK39 _ _ ?_
        refine wp_seq_k fun K43 hK43 => ?_
        refine wp_seq_k fun K44 hK44 => ?_
        refine wp_region_lit ?_
        refine Vp hF (.int .i64 ((j : Int))) ?_; clear hF; intro a hF
        refine Vp hF (.bool (decide ((j : Int) > 0))) ?_; clear hF; intro a hF
        refine Vp hF (.bool (decide ((j : Int) > 0))) ?_; clear hF; intro a hF
        by_cases q14 : (j : Int) > 0
        ·
         replace hF := hF.know (d := 99) (v' := .bool true) (by kernel_rfl) (congrArg Value.bool (decide_eq_true q14))
         refine Vp hF (.int .i64 (long)) ?_; clear hF; intro a hF
         refine Vp hF (.bool (decide (long > 1))) ?_; clear hF; intro a hF
         refine Vp hF (.bool (decide (long > 1))) ?_; clear hF; intro a hF
         replace hF := hF.know (d := 102) (v' := .bool true) (by kernel_rfl) (congrArg Value.bool (decide_eq_true q12))
         refine Vp hF (.int .i64 ((j : Int))) ?_; clear hF; intro a hF
         refine Vp hF (.int .i64 (best)) ?_; clear hF; intro a hF
         refine Vp hF (.int .i64 (long)) ?_; clear hF; intro a hF
         refine Vr hF (.int .i64 (best + long)) (x_int (x := IntKind.i64.wrap (best + long)) (i64In (by omega) (by omega)) (by kernel_rfl)) ?_; clear hF; intro a hF
         refine Vp hF (.bool ((j : Int) == (best + long))) ?_; clear hF; intro a hF
         refine Vp hF (.bool ((j : Int) == (best + long))) ?_; clear hF; intro a hF
         refine Vp hF (.bool (!((j : Int) == (best + long)))) ?_; clear hF; intro a hF
         refine Vp hF (.bool (!((j : Int) == (best + long)))) ?_; clear hF; intro a hF
         refine L_nil ?_
         refine hK44 _ _ ?_
         by_cases q15 : (j : Int) = best + long
         ·
          replace hF := hF.know (d := 110) (v' := .bool false) (by kernel_rfl) (congrArg Value.bool (notF (eqT (Decidable.of_not_not (not_not_intro q15)))))
          refine cond_f hF (by kernel_rfl) (by kernel_rfl) ?_
          refine wp_skip ?_
          refine hK43 _ _ ?_
          refine wp_region_lit ?_
          refine Vp hF (.string s) ?_; clear hF; intro a hF
          refine Vp hF (.slice q acc.length qc) ?_; clear hF; intro a hF
          refine Vp hF (.int .i64 ((j : Int))) ?_; clear hF; intro a hF
          refine Vr hF (.pointer (some ⟨(ab q), ao q + j * 1, none⟩)) (x_idxAddrS (p := q) (len := acc.length) (cap := qc) (elem := 3) (kd := .i64) (k := 1) (i := (j : Int)) rfl (by kernel_rfl) (by kernel_rfl) (by kernel_rfl) (by kernel_rfl) (by omega) (by omega) (SlAt.ne (k := 1) (hO.row List.mem_cons_self) (fun _ => rfl) (by decide) (by (first | omega | (simp only [List.length_set, List.length_take, List.length_drop, List.length_append, List.length_cons, List.length_nil]; done) | (simp only [List.length_set, List.length_take, List.length_drop, List.length_append, List.length_cons, List.length_nil]; omega) | (simp only [List.length_set, List.length_take, List.length_drop, List.length_append, List.length_cons, List.length_nil] at *; omega)) : j < acc.length))) ?_; clear hF; intro a hF
          refine Vr hF (.int .i64 ((atN x j : Int))) (x_load (p := .pointer (some ⟨(ab q), ao q + j * 1, none⟩)) rfl (by kernel_rfl) (run_loadEl1 (by kernel_rfl) (hO.row List.mem_cons_self) (fun _ => rfl) (by (first | omega | (simp only [List.length_set, List.length_take, List.length_drop, List.length_append, List.length_cons, List.length_nil]; done) | (simp only [List.length_set, List.length_take, List.length_drop, List.length_append, List.length_cons, List.length_nil]; omega) | (simp only [List.length_set, List.length_take, List.length_drop, List.length_append, List.length_cons, List.length_nil] at *; omega))) (g_at hJ.2 (by omega) (by omega) (by omega)))) ?_; clear hF; intro a hF
          refine Lc hF (numeral16 (atN x j) Wl5 (by (first | omega | (have hq := UInt8.toNat_lt (x.at i); omega) | (have hq := UInt8.toNat_lt (x.at (2 * (k : Int)).toNat); have hq2 := UInt8.toNat_lt (x.at (2 * (k : Int) + 1).toNat); omega) | (have hq2 := (atN_lt x j); omega) | (have hal := congrArg List.length hJ.2; rw [nums8_len] at hal; (try simp only [maxLen] at *); omega) | (have hz := hZ.1; omega) | (have t1 := fourT_len x i hI.1; have t2 := numT_len (b := 10) (by omega) ((x.at i).toNat + 1) (x.at i).toNat (by omega); have t3 := UInt8.toNat_lt (x.at i); have t4 : s.size = (fourT x i).length := (by rw [hI.2]; rfl); (try simp only [ByteArray.size_append] at *); (try simp only [ByteArray.size, List.size_toArray, List.length_cons, List.length_nil] at *); omega) | (have t1 := fmtI_len hS; have t2 := numT_len (b := 16) (by omega) (atN x j + 1) (atN x j) (by omega); have t3 := atN_lt x j; (try simp only [ByteArray.size_append] at *); (try simp only [ByteArray.size, List.size_toArray, List.length_cons, List.length_nil] at *); omega)))) ?_
          clear hF; rintro _ W8 a ⟨rfl, hk⟩ hF
          replace hO := hO.call0 hk; clear hk
          refine Vr hF (.string (s ++ (⟨(numT 16 (atN x j)).toArray⟩ : ByteArray))) (x_cat (s := s) (t := (⟨(numT 16 (atN x j)).toArray⟩ : ByteArray)) rfl (by kernel_rfl) (by kernel_rfl) (by (first | omega | (have hq := UInt8.toNat_lt (x.at i); omega) | (have hq := UInt8.toNat_lt (x.at (2 * (k : Int)).toNat); have hq2 := UInt8.toNat_lt (x.at (2 * (k : Int) + 1).toNat); omega) | (have hq2 := (atN_lt x j); omega) | (have hal := congrArg List.length hJ.2; rw [nums8_len] at hal; (try simp only [maxLen] at *); omega) | (have hz := hZ.1; omega) | (have t1 := fourT_len x i hI.1; have t2 := numT_len (b := 10) (by omega) ((x.at i).toNat + 1) (x.at i).toNat (by omega); have t3 := UInt8.toNat_lt (x.at i); have t4 : s.size = (fourT x i).length := (by rw [hI.2]; rfl); (try simp only [ByteArray.size_append] at *); (try simp only [ByteArray.size, List.size_toArray, List.length_cons, List.length_nil] at *); omega) | (have t1 := fmtI_len hS; have t2 := numT_len (b := 16) (by omega) (atN x j + 1) (atN x j) (by omega); have t3 := atN_lt x j; (try simp only [ByteArray.size_append] at *); (try simp only [ByteArray.size, List.size_toArray, List.length_cons, List.length_nil] at *); omega)))) ?_; clear hF; intro a hF
          refine Vp hF (.string (s ++ (⟨(numT 16 (atN x j)).toArray⟩ : ByteArray))) ?_; clear hF; intro a hF
          refine L_nil ?_
          refine block_normal ?_
          refine hK38 _ _ ?_
          refine wp_region_lit ?_
          refine Vp hF (.int .i64 ((j : Int))) ?_; clear hF; intro a hF
          refine Vr hF (.int .i64 ((j : Int) + 1)) (x_int (x := IntKind.i64.wrap ((j : Int) + 1)) (i64In (by omega) (by omega)) (by kernel_rfl)) ?_; clear hF; intro a hF
          refine Vp hF (.int .i64 ((j : Int) + 1)) ?_; clear hF; intro a hF
          refine L_nil ?_
          refine hK_5 ((j + 1, s ++ (⟨(numT 16 (atN x j)).toArray⟩ : ByteArray))) _ _ (by first | (dsimp only; omega) | (have h1 := (fmtI_gap hBL hS (by assumption) (by assumption)).2.2; have h2 := (gap x).1; dsimp only; omega)) ⟨(by dsimp only; first | exact (fmtI_gap hBL hS (by assumption) (by assumption)).1 | exact fmtI_colon hBL hS (by assumption) (by omega) (by assumption) (by omega) rfl | exact fmtI_plain hBL hS (by assumption) (by omega) (by omega) rfl), ?_, ?_⟩
          · exact hF.restrict ⟨(by kernel_rfl), (congrArg some (by first | rfl | exact congrArg (Value.int _) (by omega) | exact congrArg (Value.int _) (fmtI_gap hBL hS (by assumption) (by assumption)).2.1)), (by kernel_rfl), (by kernel_rfl), (by kernel_rfl), (congrArg some (by first | rfl | exact congrArg (Value.int _) (by omega) | exact congrArg (Value.int _) (fmtI_gap hBL hS (by assumption) (by assumption)).2.1)), trivial⟩
          · exact hO.sub (.cons_cons _ (.cons_cons _ (List.nil_sublist _)))
         ·
          replace hF := hF.know (d := 110) (v' := .bool true) (by kernel_rfl) (congrArg Value.bool (notT (eqF q15)))
          refine cond_t hF (by kernel_rfl) (by kernel_rfl) ?_
          refine wp_region_lit ?_
          refine Vp hF (.string s) ?_; clear hF; intro a hF
          refine Vr hF (.string (s ++ (⟨#[58]⟩ : ByteArray))) (x_cat (s := s) (t := (⟨#[58]⟩ : ByteArray)) rfl (by kernel_rfl) (by kernel_rfl) (by (first | omega | (have hq := UInt8.toNat_lt (x.at i); omega) | (have hq := UInt8.toNat_lt (x.at (2 * (k : Int)).toNat); have hq2 := UInt8.toNat_lt (x.at (2 * (k : Int) + 1).toNat); omega) | (have hq2 := (atN_lt x j); omega) | (have hal := congrArg List.length hJ.2; rw [nums8_len] at hal; (try simp only [maxLen] at *); omega) | (have hz := hZ.1; omega) | (have t1 := fourT_len x i hI.1; have t2 := numT_len (b := 10) (by omega) ((x.at i).toNat + 1) (x.at i).toNat (by omega); have t3 := UInt8.toNat_lt (x.at i); have t4 : s.size = (fourT x i).length := (by rw [hI.2]; rfl); (try simp only [ByteArray.size_append] at *); (try simp only [ByteArray.size, List.size_toArray, List.length_cons, List.length_nil] at *); omega) | (have t1 := fmtI_len hS; have t2 := numT_len (b := 16) (by omega) (atN x j + 1) (atN x j) (by omega); have t3 := atN_lt x j; (try simp only [ByteArray.size_append] at *); (try simp only [ByteArray.size, List.size_toArray, List.length_cons, List.length_nil] at *); omega)))) ?_; clear hF; intro a hF
          refine Vp hF (.string (s ++ (⟨#[58]⟩ : ByteArray))) ?_; clear hF; intro a hF
          refine L_nil ?_
          refine hK43 _ _ ?_
          refine wp_region_lit ?_
          refine Vp hF (.string (s ++ (⟨#[58]⟩ : ByteArray))) ?_; clear hF; intro a hF
          refine Vp hF (.slice q acc.length qc) ?_; clear hF; intro a hF
          refine Vp hF (.int .i64 ((j : Int))) ?_; clear hF; intro a hF
          refine Vr hF (.pointer (some ⟨(ab q), ao q + j * 1, none⟩)) (x_idxAddrS (p := q) (len := acc.length) (cap := qc) (elem := 3) (kd := .i64) (k := 1) (i := (j : Int)) rfl (by kernel_rfl) (by kernel_rfl) (by kernel_rfl) (by kernel_rfl) (by omega) (by omega) (SlAt.ne (k := 1) (hO.row List.mem_cons_self) (fun _ => rfl) (by decide) (by (first | omega | (simp only [List.length_set, List.length_take, List.length_drop, List.length_append, List.length_cons, List.length_nil]; done) | (simp only [List.length_set, List.length_take, List.length_drop, List.length_append, List.length_cons, List.length_nil]; omega) | (simp only [List.length_set, List.length_take, List.length_drop, List.length_append, List.length_cons, List.length_nil] at *; omega)) : j < acc.length))) ?_; clear hF; intro a hF
          refine Vr hF (.int .i64 ((atN x j : Int))) (x_load (p := .pointer (some ⟨(ab q), ao q + j * 1, none⟩)) rfl (by kernel_rfl) (run_loadEl1 (by kernel_rfl) (hO.row List.mem_cons_self) (fun _ => rfl) (by (first | omega | (simp only [List.length_set, List.length_take, List.length_drop, List.length_append, List.length_cons, List.length_nil]; done) | (simp only [List.length_set, List.length_take, List.length_drop, List.length_append, List.length_cons, List.length_nil]; omega) | (simp only [List.length_set, List.length_take, List.length_drop, List.length_append, List.length_cons, List.length_nil] at *; omega))) (g_at hJ.2 (by omega) (by omega) (by omega)))) ?_; clear hF; intro a hF
          refine Lc hF (numeral16 (atN x j) Wl5 (by (first | omega | (have hq := UInt8.toNat_lt (x.at i); omega) | (have hq := UInt8.toNat_lt (x.at (2 * (k : Int)).toNat); have hq2 := UInt8.toNat_lt (x.at (2 * (k : Int) + 1).toNat); omega) | (have hq2 := (atN_lt x j); omega) | (have hal := congrArg List.length hJ.2; rw [nums8_len] at hal; (try simp only [maxLen] at *); omega) | (have hz := hZ.1; omega) | (have t1 := fourT_len x i hI.1; have t2 := numT_len (b := 10) (by omega) ((x.at i).toNat + 1) (x.at i).toNat (by omega); have t3 := UInt8.toNat_lt (x.at i); have t4 : s.size = (fourT x i).length := (by rw [hI.2]; rfl); (try simp only [ByteArray.size_append] at *); (try simp only [ByteArray.size, List.size_toArray, List.length_cons, List.length_nil] at *); omega) | (have t1 := fmtI_len hS; have t2 := numT_len (b := 16) (by omega) (atN x j + 1) (atN x j) (by omega); have t3 := atN_lt x j; (try simp only [ByteArray.size_append] at *); (try simp only [ByteArray.size, List.size_toArray, List.length_cons, List.length_nil] at *); omega)))) ?_
          clear hF; rintro _ W9 a ⟨rfl, hk⟩ hF
          replace hO := hO.call0 hk; clear hk
          refine Vr hF (.string ((s ++ (⟨#[58]⟩ : ByteArray)) ++ (⟨(numT 16 (atN x j)).toArray⟩ : ByteArray))) (x_cat (s := s ++ (⟨#[58]⟩ : ByteArray)) (t := (⟨(numT 16 (atN x j)).toArray⟩ : ByteArray)) rfl (by kernel_rfl) (by kernel_rfl) (by (first | omega | (have hq := UInt8.toNat_lt (x.at i); omega) | (have hq := UInt8.toNat_lt (x.at (2 * (k : Int)).toNat); have hq2 := UInt8.toNat_lt (x.at (2 * (k : Int) + 1).toNat); omega) | (have hq2 := (atN_lt x j); omega) | (have hal := congrArg List.length hJ.2; rw [nums8_len] at hal; (try simp only [maxLen] at *); omega) | (have hz := hZ.1; omega) | (have t1 := fourT_len x i hI.1; have t2 := numT_len (b := 10) (by omega) ((x.at i).toNat + 1) (x.at i).toNat (by omega); have t3 := UInt8.toNat_lt (x.at i); have t4 : s.size = (fourT x i).length := (by rw [hI.2]; rfl); (try simp only [ByteArray.size_append] at *); (try simp only [ByteArray.size, List.size_toArray, List.length_cons, List.length_nil] at *); omega) | (have t1 := fmtI_len hS; have t2 := numT_len (b := 16) (by omega) (atN x j + 1) (atN x j) (by omega); have t3 := atN_lt x j; (try simp only [ByteArray.size_append] at *); (try simp only [ByteArray.size, List.size_toArray, List.length_cons, List.length_nil] at *); omega)))) ?_; clear hF; intro a hF
          refine Vp hF (.string ((s ++ (⟨#[58]⟩ : ByteArray)) ++ (⟨(numT 16 (atN x j)).toArray⟩ : ByteArray))) ?_; clear hF; intro a hF
          refine L_nil ?_
          refine block_normal ?_
          refine hK38 _ _ ?_
          refine wp_region_lit ?_
          refine Vp hF (.int .i64 ((j : Int))) ?_; clear hF; intro a hF
          refine Vr hF (.int .i64 ((j : Int) + 1)) (x_int (x := IntKind.i64.wrap ((j : Int) + 1)) (i64In (by omega) (by omega)) (by kernel_rfl)) ?_; clear hF; intro a hF
          refine Vp hF (.int .i64 ((j : Int) + 1)) ?_; clear hF; intro a hF
          refine L_nil ?_
          refine hK_5 ((j + 1, (s ++ (⟨#[58]⟩ : ByteArray)) ++ (⟨(numT 16 (atN x j)).toArray⟩ : ByteArray))) _ _ (by first | (dsimp only; omega) | (have h1 := (fmtI_gap hBL hS (by assumption) (by assumption)).2.2; have h2 := (gap x).1; dsimp only; omega)) ⟨(by dsimp only; first | exact (fmtI_gap hBL hS (by assumption) (by assumption)).1 | exact fmtI_colon hBL hS (by assumption) (by omega) (by assumption) (by omega) rfl | exact fmtI_plain hBL hS (by assumption) (by omega) (by omega) rfl), ?_, ?_⟩
          · exact hF.restrict ⟨(by kernel_rfl), (congrArg some (by first | rfl | exact congrArg (Value.int _) (by omega) | exact congrArg (Value.int _) (fmtI_gap hBL hS (by assumption) (by assumption)).2.1)), (by kernel_rfl), (by kernel_rfl), (by kernel_rfl), (congrArg some (by first | rfl | exact congrArg (Value.int _) (by omega) | exact congrArg (Value.int _) (fmtI_gap hBL hS (by assumption) (by assumption)).2.1)), trivial⟩
          · exact hO.sub (.cons_cons _ (.cons_cons _ (List.nil_sublist _)))
        ·
         replace hF := hF.know (d := 99) (v' := .bool false) (by kernel_rfl) (congrArg Value.bool (decide_eq_false q14))
         refine Lo hF ?_; clear hF; intro a hF
         refine Lo hF ?_; clear hF; intro a hF
         refine Lo hF ?_; clear hF; intro a hF
         refine Lo hF ?_; clear hF; intro a hF
         refine Lo hF ?_; clear hF; intro a hF
         refine Lo hF ?_; clear hF; intro a hF
         refine Lo hF ?_; clear hF; intro a hF
         refine Lo hF ?_; clear hF; intro a hF
         refine Lo hF ?_; clear hF; intro a hF
         refine Lo hF ?_; clear hF; intro a hF
         refine Vp hF (.bool false) ?_; clear hF; intro a hF
         refine L_nil ?_
         refine hK44 _ _ ?_
         refine cond_f hF (by kernel_rfl) (by kernel_rfl) ?_
         refine wp_skip ?_
         refine hK43 _ _ ?_
         refine wp_region_lit ?_
         refine Vp hF (.string s) ?_; clear hF; intro a hF
         refine Vp hF (.slice q acc.length qc) ?_; clear hF; intro a hF
         refine Vp hF (.int .i64 ((j : Int))) ?_; clear hF; intro a hF
         refine Vr hF (.pointer (some ⟨(ab q), ao q + j * 1, none⟩)) (x_idxAddrS (p := q) (len := acc.length) (cap := qc) (elem := 3) (kd := .i64) (k := 1) (i := (j : Int)) rfl (by kernel_rfl) (by kernel_rfl) (by kernel_rfl) (by kernel_rfl) (by omega) (by omega) (SlAt.ne (k := 1) (hO.row List.mem_cons_self) (fun _ => rfl) (by decide) (by (first | omega | (simp only [List.length_set, List.length_take, List.length_drop, List.length_append, List.length_cons, List.length_nil]; done) | (simp only [List.length_set, List.length_take, List.length_drop, List.length_append, List.length_cons, List.length_nil]; omega) | (simp only [List.length_set, List.length_take, List.length_drop, List.length_append, List.length_cons, List.length_nil] at *; omega)) : j < acc.length))) ?_; clear hF; intro a hF
         refine Vr hF (.int .i64 ((atN x j : Int))) (x_load (p := .pointer (some ⟨(ab q), ao q + j * 1, none⟩)) rfl (by kernel_rfl) (run_loadEl1 (by kernel_rfl) (hO.row List.mem_cons_self) (fun _ => rfl) (by (first | omega | (simp only [List.length_set, List.length_take, List.length_drop, List.length_append, List.length_cons, List.length_nil]; done) | (simp only [List.length_set, List.length_take, List.length_drop, List.length_append, List.length_cons, List.length_nil]; omega) | (simp only [List.length_set, List.length_take, List.length_drop, List.length_append, List.length_cons, List.length_nil] at *; omega))) (g_at hJ.2 (by omega) (by omega) (by omega)))) ?_; clear hF; intro a hF
         refine Lc hF (numeral16 (atN x j) Wl5 (by (first | omega | (have hq := UInt8.toNat_lt (x.at i); omega) | (have hq := UInt8.toNat_lt (x.at (2 * (k : Int)).toNat); have hq2 := UInt8.toNat_lt (x.at (2 * (k : Int) + 1).toNat); omega) | (have hq2 := (atN_lt x j); omega) | (have hal := congrArg List.length hJ.2; rw [nums8_len] at hal; (try simp only [maxLen] at *); omega) | (have hz := hZ.1; omega) | (have t1 := fourT_len x i hI.1; have t2 := numT_len (b := 10) (by omega) ((x.at i).toNat + 1) (x.at i).toNat (by omega); have t3 := UInt8.toNat_lt (x.at i); have t4 : s.size = (fourT x i).length := (by rw [hI.2]; rfl); (try simp only [ByteArray.size_append] at *); (try simp only [ByteArray.size, List.size_toArray, List.length_cons, List.length_nil] at *); omega) | (have t1 := fmtI_len hS; have t2 := numT_len (b := 16) (by omega) (atN x j + 1) (atN x j) (by omega); have t3 := atN_lt x j; (try simp only [ByteArray.size_append] at *); (try simp only [ByteArray.size, List.size_toArray, List.length_cons, List.length_nil] at *); omega)))) ?_
         clear hF; rintro _ W10 a ⟨rfl, hk⟩ hF
         replace hO := hO.call0 hk; clear hk
         refine Vr hF (.string (s ++ (⟨(numT 16 (atN x j)).toArray⟩ : ByteArray))) (x_cat (s := s) (t := (⟨(numT 16 (atN x j)).toArray⟩ : ByteArray)) rfl (by kernel_rfl) (by kernel_rfl) (by (first | omega | (have hq := UInt8.toNat_lt (x.at i); omega) | (have hq := UInt8.toNat_lt (x.at (2 * (k : Int)).toNat); have hq2 := UInt8.toNat_lt (x.at (2 * (k : Int) + 1).toNat); omega) | (have hq2 := (atN_lt x j); omega) | (have hal := congrArg List.length hJ.2; rw [nums8_len] at hal; (try simp only [maxLen] at *); omega) | (have hz := hZ.1; omega) | (have t1 := fourT_len x i hI.1; have t2 := numT_len (b := 10) (by omega) ((x.at i).toNat + 1) (x.at i).toNat (by omega); have t3 := UInt8.toNat_lt (x.at i); have t4 : s.size = (fourT x i).length := (by rw [hI.2]; rfl); (try simp only [ByteArray.size_append] at *); (try simp only [ByteArray.size, List.size_toArray, List.length_cons, List.length_nil] at *); omega) | (have t1 := fmtI_len hS; have t2 := numT_len (b := 16) (by omega) (atN x j + 1) (atN x j) (by omega); have t3 := atN_lt x j; (try simp only [ByteArray.size_append] at *); (try simp only [ByteArray.size, List.size_toArray, List.length_cons, List.length_nil] at *); omega)))) ?_; clear hF; intro a hF
         refine Vp hF (.string (s ++ (⟨(numT 16 (atN x j)).toArray⟩ : ByteArray))) ?_; clear hF; intro a hF
         refine L_nil ?_
         refine block_normal ?_
         refine hK38 _ _ ?_
         refine wp_region_lit ?_
         refine Vp hF (.int .i64 ((j : Int))) ?_; clear hF; intro a hF
         refine Vr hF (.int .i64 ((j : Int) + 1)) (x_int (x := IntKind.i64.wrap ((j : Int) + 1)) (i64In (by omega) (by omega)) (by kernel_rfl)) ?_; clear hF; intro a hF
         refine Vp hF (.int .i64 ((j : Int) + 1)) ?_; clear hF; intro a hF
         refine L_nil ?_
         refine hK_5 ((j + 1, s ++ (⟨(numT 16 (atN x j)).toArray⟩ : ByteArray))) _ _ (by first | (dsimp only; omega) | (have h1 := (fmtI_gap hBL hS (by assumption) (by assumption)).2.2; have h2 := (gap x).1; dsimp only; omega)) ⟨(by dsimp only; first | exact (fmtI_gap hBL hS (by assumption) (by assumption)).1 | exact fmtI_colon hBL hS (by assumption) (by omega) (by assumption) (by omega) rfl | exact fmtI_plain hBL hS (by assumption) (by omega) (by omega) rfl), ?_, ?_⟩
         · exact hF.restrict ⟨(by kernel_rfl), (congrArg some (by first | rfl | exact congrArg (Value.int _) (by omega) | exact congrArg (Value.int _) (fmtI_gap hBL hS (by assumption) (by assumption)).2.1)), (by kernel_rfl), (by kernel_rfl), (by kernel_rfl), (congrArg some (by first | rfl | exact congrArg (Value.int _) (by omega) | exact congrArg (Value.int _) (fmtI_gap hBL hS (by assumption) (by assumption)).2.1)), trivial⟩
         · exact hO.sub (.cons_cons _ (.cons_cons _ (List.nil_sublist _)))
      ·
       replace hF := hF.know (d := 86) (v' := .bool false) (by kernel_rfl) (congrArg Value.bool (decide_eq_false q12))
       refine Lo hF ?_; clear hF; intro a hF
       refine Lo hF ?_; clear hF; intro a hF
       refine Lo hF ?_; clear hF; intro a hF
       refine Vp hF (.bool false) ?_; clear hF; intro a hF
       refine L_nil ?_
       refine hK40 _ _ ?_
       refine cond_f hF (by kernel_rfl) (by kernel_rfl) ?_
       refine wp_skip ?_
       refine hK39 _ _ ?_
       refine wp_seq_k fun K45 hK45 => ?_
       refine wp_seq_k fun K46 hK46 => ?_
       refine wp_region_lit ?_
       refine Vp hF (.int .i64 ((j : Int))) ?_; clear hF; intro a hF
       refine Vp hF (.bool (decide ((j : Int) > 0))) ?_; clear hF; intro a hF
       refine Vp hF (.bool (decide ((j : Int) > 0))) ?_; clear hF; intro a hF
       by_cases q16 : (j : Int) > 0
       ·
        replace hF := hF.know (d := 99) (v' := .bool true) (by kernel_rfl) (congrArg Value.bool (decide_eq_true q16))
        refine Vp hF (.int .i64 (long)) ?_; clear hF; intro a hF
        refine Vp hF (.bool (decide (long > 1))) ?_; clear hF; intro a hF
        refine Vp hF (.bool (decide (long > 1))) ?_; clear hF; intro a hF
        replace hF := hF.know (d := 102) (v' := .bool false) (by kernel_rfl) (congrArg Value.bool (decide_eq_false q12))
        refine Lo hF ?_; clear hF; intro a hF
        refine Lo hF ?_; clear hF; intro a hF
        refine Lo hF ?_; clear hF; intro a hF
        refine Lo hF ?_; clear hF; intro a hF
        refine Lo hF ?_; clear hF; intro a hF
        refine Vp hF (.bool false) ?_; clear hF; intro a hF
        refine Vp hF (.bool true) ?_; clear hF; intro a hF
        refine Vp hF (.bool true) ?_; clear hF; intro a hF
        refine L_nil ?_
        refine hK46 _ _ ?_
        refine cond_t hF (by kernel_rfl) (by kernel_rfl) ?_
        refine wp_region_lit ?_
        refine Vp hF (.string s) ?_; clear hF; intro a hF
        refine Vr hF (.string (s ++ (⟨#[58]⟩ : ByteArray))) (x_cat (s := s) (t := (⟨#[58]⟩ : ByteArray)) rfl (by kernel_rfl) (by kernel_rfl) (by (first | omega | (have hq := UInt8.toNat_lt (x.at i); omega) | (have hq := UInt8.toNat_lt (x.at (2 * (k : Int)).toNat); have hq2 := UInt8.toNat_lt (x.at (2 * (k : Int) + 1).toNat); omega) | (have hq2 := (atN_lt x j); omega) | (have hal := congrArg List.length hJ.2; rw [nums8_len] at hal; (try simp only [maxLen] at *); omega) | (have hz := hZ.1; omega) | (have t1 := fourT_len x i hI.1; have t2 := numT_len (b := 10) (by omega) ((x.at i).toNat + 1) (x.at i).toNat (by omega); have t3 := UInt8.toNat_lt (x.at i); have t4 : s.size = (fourT x i).length := (by rw [hI.2]; rfl); (try simp only [ByteArray.size_append] at *); (try simp only [ByteArray.size, List.size_toArray, List.length_cons, List.length_nil] at *); omega) | (have t1 := fmtI_len hS; have t2 := numT_len (b := 16) (by omega) (atN x j + 1) (atN x j) (by omega); have t3 := atN_lt x j; (try simp only [ByteArray.size_append] at *); (try simp only [ByteArray.size, List.size_toArray, List.length_cons, List.length_nil] at *); omega)))) ?_; clear hF; intro a hF
        refine Vp hF (.string (s ++ (⟨#[58]⟩ : ByteArray))) ?_; clear hF; intro a hF
        refine L_nil ?_
        refine hK45 _ _ ?_
        refine wp_region_lit ?_
        refine Vp hF (.string (s ++ (⟨#[58]⟩ : ByteArray))) ?_; clear hF; intro a hF
        refine Vp hF (.slice q acc.length qc) ?_; clear hF; intro a hF
        refine Vp hF (.int .i64 ((j : Int))) ?_; clear hF; intro a hF
        refine Vr hF (.pointer (some ⟨(ab q), ao q + j * 1, none⟩)) (x_idxAddrS (p := q) (len := acc.length) (cap := qc) (elem := 3) (kd := .i64) (k := 1) (i := (j : Int)) rfl (by kernel_rfl) (by kernel_rfl) (by kernel_rfl) (by kernel_rfl) (by omega) (by omega) (SlAt.ne (k := 1) (hO.row List.mem_cons_self) (fun _ => rfl) (by decide) (by (first | omega | (simp only [List.length_set, List.length_take, List.length_drop, List.length_append, List.length_cons, List.length_nil]; done) | (simp only [List.length_set, List.length_take, List.length_drop, List.length_append, List.length_cons, List.length_nil]; omega) | (simp only [List.length_set, List.length_take, List.length_drop, List.length_append, List.length_cons, List.length_nil] at *; omega)) : j < acc.length))) ?_; clear hF; intro a hF
        refine Vr hF (.int .i64 ((atN x j : Int))) (x_load (p := .pointer (some ⟨(ab q), ao q + j * 1, none⟩)) rfl (by kernel_rfl) (run_loadEl1 (by kernel_rfl) (hO.row List.mem_cons_self) (fun _ => rfl) (by (first | omega | (simp only [List.length_set, List.length_take, List.length_drop, List.length_append, List.length_cons, List.length_nil]; done) | (simp only [List.length_set, List.length_take, List.length_drop, List.length_append, List.length_cons, List.length_nil]; omega) | (simp only [List.length_set, List.length_take, List.length_drop, List.length_append, List.length_cons, List.length_nil] at *; omega))) (g_at hJ.2 (by omega) (by omega) (by omega)))) ?_; clear hF; intro a hF
        refine Lc hF (numeral16 (atN x j) Wl5 (by (first | omega | (have hq := UInt8.toNat_lt (x.at i); omega) | (have hq := UInt8.toNat_lt (x.at (2 * (k : Int)).toNat); have hq2 := UInt8.toNat_lt (x.at (2 * (k : Int) + 1).toNat); omega) | (have hq2 := (atN_lt x j); omega) | (have hal := congrArg List.length hJ.2; rw [nums8_len] at hal; (try simp only [maxLen] at *); omega) | (have hz := hZ.1; omega) | (have t1 := fourT_len x i hI.1; have t2 := numT_len (b := 10) (by omega) ((x.at i).toNat + 1) (x.at i).toNat (by omega); have t3 := UInt8.toNat_lt (x.at i); have t4 : s.size = (fourT x i).length := (by rw [hI.2]; rfl); (try simp only [ByteArray.size_append] at *); (try simp only [ByteArray.size, List.size_toArray, List.length_cons, List.length_nil] at *); omega) | (have t1 := fmtI_len hS; have t2 := numT_len (b := 16) (by omega) (atN x j + 1) (atN x j) (by omega); have t3 := atN_lt x j; (try simp only [ByteArray.size_append] at *); (try simp only [ByteArray.size, List.size_toArray, List.length_cons, List.length_nil] at *); omega)))) ?_
        clear hF; rintro _ W11 a ⟨rfl, hk⟩ hF
        replace hO := hO.call0 hk; clear hk
        refine Vr hF (.string ((s ++ (⟨#[58]⟩ : ByteArray)) ++ (⟨(numT 16 (atN x j)).toArray⟩ : ByteArray))) (x_cat (s := s ++ (⟨#[58]⟩ : ByteArray)) (t := (⟨(numT 16 (atN x j)).toArray⟩ : ByteArray)) rfl (by kernel_rfl) (by kernel_rfl) (by (first | omega | (have hq := UInt8.toNat_lt (x.at i); omega) | (have hq := UInt8.toNat_lt (x.at (2 * (k : Int)).toNat); have hq2 := UInt8.toNat_lt (x.at (2 * (k : Int) + 1).toNat); omega) | (have hq2 := (atN_lt x j); omega) | (have hal := congrArg List.length hJ.2; rw [nums8_len] at hal; (try simp only [maxLen] at *); omega) | (have hz := hZ.1; omega) | (have t1 := fourT_len x i hI.1; have t2 := numT_len (b := 10) (by omega) ((x.at i).toNat + 1) (x.at i).toNat (by omega); have t3 := UInt8.toNat_lt (x.at i); have t4 : s.size = (fourT x i).length := (by rw [hI.2]; rfl); (try simp only [ByteArray.size_append] at *); (try simp only [ByteArray.size, List.size_toArray, List.length_cons, List.length_nil] at *); omega) | (have t1 := fmtI_len hS; have t2 := numT_len (b := 16) (by omega) (atN x j + 1) (atN x j) (by omega); have t3 := atN_lt x j; (try simp only [ByteArray.size_append] at *); (try simp only [ByteArray.size, List.size_toArray, List.length_cons, List.length_nil] at *); omega)))) ?_; clear hF; intro a hF
        refine Vp hF (.string ((s ++ (⟨#[58]⟩ : ByteArray)) ++ (⟨(numT 16 (atN x j)).toArray⟩ : ByteArray))) ?_; clear hF; intro a hF
        refine L_nil ?_
        refine block_normal ?_
        refine hK38 _ _ ?_
        refine wp_region_lit ?_
        refine Vp hF (.int .i64 ((j : Int))) ?_; clear hF; intro a hF
        refine Vr hF (.int .i64 ((j : Int) + 1)) (x_int (x := IntKind.i64.wrap ((j : Int) + 1)) (i64In (by omega) (by omega)) (by kernel_rfl)) ?_; clear hF; intro a hF
        refine Vp hF (.int .i64 ((j : Int) + 1)) ?_; clear hF; intro a hF
        refine L_nil ?_
        refine hK_5 ((j + 1, (s ++ (⟨#[58]⟩ : ByteArray)) ++ (⟨(numT 16 (atN x j)).toArray⟩ : ByteArray))) _ _ (by first | (dsimp only; omega) | (have h1 := (fmtI_gap hBL hS (by assumption) (by assumption)).2.2; have h2 := (gap x).1; dsimp only; omega)) ⟨(by dsimp only; first | exact (fmtI_gap hBL hS (by assumption) (by assumption)).1 | exact fmtI_colon hBL hS (by assumption) (by omega) (by assumption) (by omega) rfl | exact fmtI_plain hBL hS (by assumption) (by omega) (by omega) rfl), ?_, ?_⟩
        · exact hF.restrict ⟨(by kernel_rfl), (congrArg some (by first | rfl | exact congrArg (Value.int _) (by omega) | exact congrArg (Value.int _) (fmtI_gap hBL hS (by assumption) (by assumption)).2.1)), (by kernel_rfl), (by kernel_rfl), (by kernel_rfl), (congrArg some (by first | rfl | exact congrArg (Value.int _) (by omega) | exact congrArg (Value.int _) (fmtI_gap hBL hS (by assumption) (by assumption)).2.1)), trivial⟩
        · exact hO.sub (.cons_cons _ (.cons_cons _ (List.nil_sublist _)))
       ·
        replace hF := hF.know (d := 99) (v' := .bool false) (by kernel_rfl) (congrArg Value.bool (decide_eq_false q16))
        refine Lo hF ?_; clear hF; intro a hF
        refine Lo hF ?_; clear hF; intro a hF
        refine Lo hF ?_; clear hF; intro a hF
        refine Lo hF ?_; clear hF; intro a hF
        refine Lo hF ?_; clear hF; intro a hF
        refine Lo hF ?_; clear hF; intro a hF
        refine Lo hF ?_; clear hF; intro a hF
        refine Lo hF ?_; clear hF; intro a hF
        refine Lo hF ?_; clear hF; intro a hF
        refine Lo hF ?_; clear hF; intro a hF
        refine Vp hF (.bool false) ?_; clear hF; intro a hF
        refine L_nil ?_
        refine hK46 _ _ ?_
        refine cond_f hF (by kernel_rfl) (by kernel_rfl) ?_
        refine wp_skip ?_
        refine hK45 _ _ ?_
        refine wp_region_lit ?_
        refine Vp hF (.string s) ?_; clear hF; intro a hF
        refine Vp hF (.slice q acc.length qc) ?_; clear hF; intro a hF
        refine Vp hF (.int .i64 ((j : Int))) ?_; clear hF; intro a hF
        refine Vr hF (.pointer (some ⟨(ab q), ao q + j * 1, none⟩)) (x_idxAddrS (p := q) (len := acc.length) (cap := qc) (elem := 3) (kd := .i64) (k := 1) (i := (j : Int)) rfl (by kernel_rfl) (by kernel_rfl) (by kernel_rfl) (by kernel_rfl) (by omega) (by omega) (SlAt.ne (k := 1) (hO.row List.mem_cons_self) (fun _ => rfl) (by decide) (by (first | omega | (simp only [List.length_set, List.length_take, List.length_drop, List.length_append, List.length_cons, List.length_nil]; done) | (simp only [List.length_set, List.length_take, List.length_drop, List.length_append, List.length_cons, List.length_nil]; omega) | (simp only [List.length_set, List.length_take, List.length_drop, List.length_append, List.length_cons, List.length_nil] at *; omega)) : j < acc.length))) ?_; clear hF; intro a hF
        refine Vr hF (.int .i64 ((atN x j : Int))) (x_load (p := .pointer (some ⟨(ab q), ao q + j * 1, none⟩)) rfl (by kernel_rfl) (run_loadEl1 (by kernel_rfl) (hO.row List.mem_cons_self) (fun _ => rfl) (by (first | omega | (simp only [List.length_set, List.length_take, List.length_drop, List.length_append, List.length_cons, List.length_nil]; done) | (simp only [List.length_set, List.length_take, List.length_drop, List.length_append, List.length_cons, List.length_nil]; omega) | (simp only [List.length_set, List.length_take, List.length_drop, List.length_append, List.length_cons, List.length_nil] at *; omega))) (g_at hJ.2 (by omega) (by omega) (by omega)))) ?_; clear hF; intro a hF
        refine Lc hF (numeral16 (atN x j) Wl5 (by (first | omega | (have hq := UInt8.toNat_lt (x.at i); omega) | (have hq := UInt8.toNat_lt (x.at (2 * (k : Int)).toNat); have hq2 := UInt8.toNat_lt (x.at (2 * (k : Int) + 1).toNat); omega) | (have hq2 := (atN_lt x j); omega) | (have hal := congrArg List.length hJ.2; rw [nums8_len] at hal; (try simp only [maxLen] at *); omega) | (have hz := hZ.1; omega) | (have t1 := fourT_len x i hI.1; have t2 := numT_len (b := 10) (by omega) ((x.at i).toNat + 1) (x.at i).toNat (by omega); have t3 := UInt8.toNat_lt (x.at i); have t4 : s.size = (fourT x i).length := (by rw [hI.2]; rfl); (try simp only [ByteArray.size_append] at *); (try simp only [ByteArray.size, List.size_toArray, List.length_cons, List.length_nil] at *); omega) | (have t1 := fmtI_len hS; have t2 := numT_len (b := 16) (by omega) (atN x j + 1) (atN x j) (by omega); have t3 := atN_lt x j; (try simp only [ByteArray.size_append] at *); (try simp only [ByteArray.size, List.size_toArray, List.length_cons, List.length_nil] at *); omega)))) ?_
        clear hF; rintro _ W12 a ⟨rfl, hk⟩ hF
        replace hO := hO.call0 hk; clear hk
        refine Vr hF (.string (s ++ (⟨(numT 16 (atN x j)).toArray⟩ : ByteArray))) (x_cat (s := s) (t := (⟨(numT 16 (atN x j)).toArray⟩ : ByteArray)) rfl (by kernel_rfl) (by kernel_rfl) (by (first | omega | (have hq := UInt8.toNat_lt (x.at i); omega) | (have hq := UInt8.toNat_lt (x.at (2 * (k : Int)).toNat); have hq2 := UInt8.toNat_lt (x.at (2 * (k : Int) + 1).toNat); omega) | (have hq2 := (atN_lt x j); omega) | (have hal := congrArg List.length hJ.2; rw [nums8_len] at hal; (try simp only [maxLen] at *); omega) | (have hz := hZ.1; omega) | (have t1 := fourT_len x i hI.1; have t2 := numT_len (b := 10) (by omega) ((x.at i).toNat + 1) (x.at i).toNat (by omega); have t3 := UInt8.toNat_lt (x.at i); have t4 : s.size = (fourT x i).length := (by rw [hI.2]; rfl); (try simp only [ByteArray.size_append] at *); (try simp only [ByteArray.size, List.size_toArray, List.length_cons, List.length_nil] at *); omega) | (have t1 := fmtI_len hS; have t2 := numT_len (b := 16) (by omega) (atN x j + 1) (atN x j) (by omega); have t3 := atN_lt x j; (try simp only [ByteArray.size_append] at *); (try simp only [ByteArray.size, List.size_toArray, List.length_cons, List.length_nil] at *); omega)))) ?_; clear hF; intro a hF
        refine Vp hF (.string (s ++ (⟨(numT 16 (atN x j)).toArray⟩ : ByteArray))) ?_; clear hF; intro a hF
        refine L_nil ?_
        refine block_normal ?_
        refine hK38 _ _ ?_
        refine wp_region_lit ?_
        refine Vp hF (.int .i64 ((j : Int))) ?_; clear hF; intro a hF
        refine Vr hF (.int .i64 ((j : Int) + 1)) (x_int (x := IntKind.i64.wrap ((j : Int) + 1)) (i64In (by omega) (by omega)) (by kernel_rfl)) ?_; clear hF; intro a hF
        refine Vp hF (.int .i64 ((j : Int) + 1)) ?_; clear hF; intro a hF
        refine L_nil ?_
        refine hK_5 ((j + 1, s ++ (⟨(numT 16 (atN x j)).toArray⟩ : ByteArray))) _ _ (by first | (dsimp only; omega) | (have h1 := (fmtI_gap hBL hS (by assumption) (by assumption)).2.2; have h2 := (gap x).1; dsimp only; omega)) ⟨(by dsimp only; first | exact (fmtI_gap hBL hS (by assumption) (by assumption)).1 | exact fmtI_colon hBL hS (by assumption) (by omega) (by assumption) (by omega) rfl | exact fmtI_plain hBL hS (by assumption) (by omega) (by omega) rfl), ?_, ?_⟩
        · exact hF.restrict ⟨(by kernel_rfl), (congrArg some (by first | rfl | exact congrArg (Value.int _) (by omega) | exact congrArg (Value.int _) (fmtI_gap hBL hS (by assumption) (by assumption)).2.1)), (by kernel_rfl), (by kernel_rfl), (by kernel_rfl), (congrArg some (by first | rfl | exact congrArg (Value.int _) (by omega) | exact congrArg (Value.int _) (fmtI_gap hBL hS (by assumption) (by assumption)).2.1)), trivial⟩
        · exact hO.sub (.cons_cons _ (.cons_cons _ (List.nil_sublist _)))
     ·
      replace hF := hF.know (d := 81) (v' := .bool false) (by kernel_rfl) (congrArg Value.bool (decide_eq_false q11))
      refine cond_f hF (by kernel_rfl) (by kernel_rfl) ?_
      refine wp_exit ?_
      refine then_exit ?_
      refine then_exit ?_
      refine inBlock_hit ?_
      refine hK34 _ _ ?_
      refine wp_seq_k fun K47 hK47 => ?_
      refine wp_region_lit ?_
      refine Vp hF (.string s) ?_; clear hF; intro a hF
      refine Vp hF (.string s) ?_; clear hF; intro a hF
      refine L_nil ?_
      refine hK47 _ _ ?_
      refine wp_ret ?_
      refine ret1 hF (v := .string s) rfl (resT (by kernel_rfl)) (by refine ⟨?_, hO.nil⟩; first | (rw [fmtS_no (by assumption)]; done) | (obtain rfl : i = 4 := (by omega); rw [hI.2, fmtS_four (by assumption) (by assumption)]; rfl) | (rw [← fmtI_end hS (by assumption) (by assumption) (by assumption)]; done)) .ret (.inl rfl)

end Go.Proofs.YthellfigmpjhlaaGreatDoor
