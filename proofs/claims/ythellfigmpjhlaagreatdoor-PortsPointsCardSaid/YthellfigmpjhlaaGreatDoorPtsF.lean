/- Texts of points, walked. -/
import Derived.Test.YthellfigmpjhlaaGreatDoorBack
import Derived.Test.YthellfigmpjhlaaGreatDoorFmtR
import Derived.Test.YthellfigmpjhlaaGreatDoorPortsW
namespace Go.Proofs.YthellfigmpjhlaaGreatDoor
open Go Go.RowKit
set_option linter.unusedVariables false
set_option linter.unusedSimpArgs false
set_option maxRecDepth 20000 in
theorem ref04_Numeral (n : Nat) (W : World) (hn : n < 1000000) : Ret Tryz.prog 114 #[.int .i64 ((n : Int))] W fun v W' => v = .string ⟨(Lib.decDigits n).toArray⟩ ∧ Own W noX [] W' := by
 induction n using Nat.strongRecOn generalizing W
 rename_i n ih
 have hsz : ((⟨#[48, 49, 50, 51, 52, 53, 54, 55, 56, 57]⟩ : ByteArray).size : Int) = 10 := rfl
 refine enter Tryz.func114 rfl (n := 22) rfl (by kernel_rfl) (E0 := [(0, .int .i64 ((n : Int)))]) (by kernel_rfl) ?_
 intro a hF; have hO := Own.start W noX
 refine wp_seq_k fun K1 hK1 => ?_
 refine wp_region_lit ?_
 refine Vp hF (.string (⟨#[]⟩ : ByteArray)) ?_; clear hF; intro a hF
 refine L_nil ?_
 refine hK1 _ _ ?_
 refine wp_seq_k fun K2 hK2 => ?_
 refine wp_region_lit ?_
 refine Vp hF (.string (⟨#[48, 49, 50, 51, 52, 53, 54, 55, 56, 57]⟩ : ByteArray)) ?_; clear hF; intro a hF
 refine L_nil ?_
 refine hK2 _ _ ?_
 refine wp_seq_k fun K3 hK3 => ?_
 refine wp_seq_k fun K4 hK4 => ?_
 refine wp_region_lit ?_
 refine Vp hF (.int .i64 ((n : Int))) ?_; clear hF; intro a hF
 refine Vp hF (.bool (decide ((n : Int) < 10))) ?_; clear hF; intro a hF
 refine L_nil ?_
 refine hK4 _ _ ?_
 by_cases q1 : (n : Int) < 10
 ·
  replace hF := hF.know (d := 5) (v' := .bool true) (by kernel_rfl) (congrArg Value.bool (decide_eq_true q1))
  refine cond_t hF (by kernel_rfl) (by kernel_rfl) ?_
  refine wp_seq_k fun K5 hK5 => ?_
  refine wp_region_lit ?_
  refine Vp hF (.string (⟨#[48, 49, 50, 51, 52, 53, 54, 55, 56, 57]⟩ : ByteArray)) ?_; clear hF; intro a hF
  refine Vp hF (.int .i64 ((n : Int))) ?_; clear hF; intro a hF
  refine Vp hF (.int .i64 ((n : Int))) ?_; clear hF; intro a hF
  refine Vr hF (.int .i64 ((n : Int) + 1)) (x_int (x := IntKind.i64.wrap ((n : Int) + 1)) (i64In (by omega) (by omega)) (by kernel_rfl)) ?_; clear hF; intro a hF
  refine Vr hF (.string ((⟨#[48, 49, 50, 51, 52, 53, 54, 55, 56, 57]⟩ : ByteArray).extract ((n : Int).toNat) (((n : Int) + 1).toNat))) (x_slStrLH (s := (⟨#[48, 49, 50, 51, 52, 53, 54, 55, 56, 57]⟩ : ByteArray)) (k := .i64) (i := (n : Int)) (k' := .i64) (j := (n : Int) + 1) rfl (by kernel_rfl) (by kernel_rfl) (by kernel_rfl) (by kernel_rfl) (by omega) (by omega) (by omega)) ?_; clear hF; intro a hF
  refine Vp hF (.string ((⟨#[48, 49, 50, 51, 52, 53, 54, 55, 56, 57]⟩ : ByteArray).extract ((n : Int).toNat) (((n : Int) + 1).toNat))) ?_; clear hF; intro a hF
  refine L_nil ?_
  refine hK5 _ _ ?_
  refine wp_ret ?_
  refine then_ret ?_
  refine ret1 hF (v := .string ((⟨#[48, 49, 50, 51, 52, 53, 54, 55, 56, 57]⟩ : ByteArray).extract ((n : Int).toNat) (((n : Int) + 1).toNat))) rfl (resT (by kernel_rfl)) (by refine ⟨?_, hO.nil⟩; first | exact congrArg Value.string (dec_lo (n := n) (by omega)) | exact congrArg Value.string (dec_hi (n := n) (by omega))) .ret (.inl rfl)
 ·
  replace hF := hF.know (d := 5) (v' := .bool false) (by kernel_rfl) (congrArg Value.bool (decide_eq_false q1))
  refine cond_f hF (by kernel_rfl) (by kernel_rfl) ?_
  refine wp_skip ?_
  refine hK3 _ _ ?_
  refine wp_seq_k fun K6 hK6 => ?_
  refine A_start (fun Wx => Own W noX [] Wx) (by kernel_rfl) ?_
  replace hO := hO.drewN 1
  generalize hWd : ({ W with drawn := W.drawn + 1 } : World) = W_d at hO ⊢; clear hWd
  have hS := hO.sub (List.nil_sublist _)
  refine Tk 0 rfl hF (.int .i64 ((n : Int))) (fun Wx _ => by kernel_rfl) hS ?_; clear hF; intro a hF
  refine Tk 1 rfl hF (.int .i64 ((n : Int) / 10)) (fun Wx _ => (x_int (x := IntKind.i64.wrap (Int.tdiv (n : Int) 10)) (i64Quo (by decide) (by omega) (by omega)) (by kernel_rfl))) hS ?_; clear hF; intro a hF
  refine Tk 3 rfl hF (.string (⟨#[48, 49, 50, 51, 52, 53, 54, 55, 56, 57]⟩ : ByteArray)) (fun Wx _ => by kernel_rfl) hS ?_; clear hF; intro a hF
  refine Tk 4 rfl hF (.int .i64 ((n : Int))) (fun Wx _ => by kernel_rfl) hS ?_; clear hF; intro a hF
  refine Tk 5 rfl hF (.int .i64 ((n : Int) % 10)) (fun Wx _ => (x_int (x := Int.tmod (n : Int) 10) (rem_pos (by omega)) (by kernel_rfl))) hS ?_; clear hF; intro a hF
  refine Tk 6 rfl hF (.int .i64 ((n : Int))) (fun Wx _ => by kernel_rfl) hS ?_; clear hF; intro a hF
  refine Tk 7 rfl hF (.int .i64 ((n : Int) % 10)) (fun Wx _ => (x_int (x := Int.tmod (n : Int) 10) (rem_pos (by omega)) (by kernel_rfl))) hS ?_; clear hF; intro a hF
  refine Tk 8 rfl hF (.int .i64 ((n : Int) % 10 + 1)) (fun Wx _ => (x_int (x := IntKind.i64.wrap ((n : Int) % 10 + 1)) (i64In (by omega) (by omega)) (by kernel_rfl))) hS ?_; clear hF; intro a hF
  refine Tk 9 rfl hF (.string ((⟨#[48, 49, 50, 51, 52, 53, 54, 55, 56, 57]⟩ : ByteArray).extract (((n : Int) % 10).toNat) (((n : Int) % 10 + 1).toNat))) (fun Wx _ => (x_slStrLH (s := (⟨#[48, 49, 50, 51, 52, 53, 54, 55, 56, 57]⟩ : ByteArray)) (k := .i64) (i := (n : Int) % 10) (k' := .i64) (j := (n : Int) % 10 + 1) rfl (by kernel_rfl) (by kernel_rfl) (by kernel_rfl) (by kernel_rfl) (by omega) (by omega) (by omega))) hS ?_; clear hF; intro a hF
  refine A_one (i := 2) (listed' := #[true, true, true, true, true, true, true, true, true, true, false, false]) (by kernel_rfl) rfl (by kernel_rfl) ?_
  refine OpK.lc hF (ih (n / 10) (by omega) W_d (by omega)) ?_
  clear hF; rintro _ W1 a ⟨rfl, hk⟩ hF
  replace hO := hO.call0 hk; clear hk
  refine ⟨hO.sub (List.nil_sublist _), ?_⟩
  have hS := hO.sub (List.nil_sublist _)
  refine Tk 10 rfl hF (.string ((⟨(Lib.decDigits (n / 10)).toArray⟩ : ByteArray) ++ ((⟨#[48, 49, 50, 51, 52, 53, 54, 55, 56, 57]⟩ : ByteArray).extract (((n : Int) % 10).toNat) (((n : Int) % 10 + 1).toNat)))) (fun Wx _ => (x_cat (s := (⟨(Lib.decDigits (n / 10)).toArray⟩ : ByteArray)) (t := (⟨#[48, 49, 50, 51, 52, 53, 54, 55, 56, 57]⟩ : ByteArray).extract (((n : Int) % 10).toNat) (((n : Int) % 10 + 1).toNat)) rfl (by kernel_rfl) (by kernel_rfl) (by (first | omega | (have t1 := dd_len 6 (n / 10) (by omega); (try simp only [ByteArray.size_extract] at *); (try simp only [ByteArray.size, List.size_toArray] at *); omega))))) hS ?_; clear hF; intro a hF
  refine Tk 11 rfl hF (.string ((⟨(Lib.decDigits (n / 10)).toArray⟩ : ByteArray) ++ ((⟨#[48, 49, 50, 51, 52, 53, 54, 55, 56, 57]⟩ : ByteArray).extract (((n : Int) % 10).toNat) (((n : Int) % 10 + 1).toNat)))) (fun Wx _ => by kernel_rfl) hS ?_; clear hF; intro a hF
  refine A_done (by kernel_rfl) ?_
  refine hK6 _ _ ?_
  refine wp_ret ?_
  refine ret1 hF (v := .string ((⟨(Lib.decDigits (n / 10)).toArray⟩ : ByteArray) ++ ((⟨#[48, 49, 50, 51, 52, 53, 54, 55, 56, 57]⟩ : ByteArray).extract (((n : Int) % 10).toNat) (((n : Int) % 10 + 1).toNat)))) rfl (resT (by kernel_rfl)) (by refine ⟨?_, hO.nil⟩; first | exact congrArg Value.string (dec_lo (n := n) (by omega)) | exact congrArg Value.string (dec_hi (n := n) (by omega))) .ret (.inl rfl)

set_option maxRecDepth 20000 in
theorem ports_Point (c : Pt) (W : World) : Ret Tryz.prog 69 #[ptV c] W fun v W' => v = .bool (ptOk c) ∧ Own W noX [] W' := by
 refine enter Tryz.func69 rfl (n := 11) rfl (by kernel_rfl) (E0 := [(0, ptV c)]) (by kernel_rfl) ?_
 intro a hF; have hO := Own.start W noX
 refine wp_seq_k fun K1 hK1 => ?_
 refine wp_region_lit ?_
 refine L_new hF hO (by kernel_rfl) (by kernel_rfl) (vf := fun b => .pointer (some ⟨b, 0, none⟩)) (ob := .cells #[.bool c.ip.six, .int .u8 ((c.ip.b0.toNat : Int)), .int .u8 ((c.ip.b1.toNat : Int)), .int .u8 ((c.ip.b2.toNat : Int)), .int .u8 ((c.ip.b3.toNat : Int)), .int .u8 ((c.ip.b4.toNat : Int)), .int .u8 ((c.ip.b5.toNat : Int)), .int .u8 ((c.ip.b6.toNat : Int)), .int .u8 ((c.ip.b7.toNat : Int)), .int .u8 ((c.ip.b8.toNat : Int)), .int .u8 ((c.ip.b9.toNat : Int)), .int .u8 ((c.ip.b10.toNat : Int)), .int .u8 ((c.ip.b11.toNat : Int)), .int .u8 ((c.ip.b12.toNat : Int)), .int .u8 ((c.ip.b13.toNat : Int)), .int .u8 ((c.ip.b14.toNat : Int)), .int .u8 ((c.ip.b15.toNat : Int)), .int .i64 (c.port)] 45) (by kernel_rfl) (by kernel_rfl) ?_
 clear hF hO; intro b1 W1 a hO hF
 refine Vp hF (.bool false) ?_; clear hF; intro a hF
 refine L_nil ?_
 refine hK1 _ _ ?_
 refine wp_seq_k fun K2 hK2 => ?_
 refine wp_region_lit ?_
 refine Vp hF (.pointer (some ⟨b1, 0, none⟩)) ?_; clear hF; intro a hF
 refine Vr hF (ipV c.ip) (x_load (p := .pointer (some ⟨b1, 0, none⟩)) rfl (by kernel_rfl) (run_loadA (k := 17) (by kernel_rfl) (by kernel_rfl) (hO.blk List.mem_cons_self) (by kernel_rfl) (by kernel_rfl))) ?_; clear hF; intro a hF
 refine Lc hF (addr_Right c.ip W1) ?_
 clear hF; rintro _ W2 a ⟨rfl, hk⟩ hF
 replace hO := hO.call0 hk; clear hk
 refine Vp hF (.bool (rightIp c.ip)) ?_; clear hF; intro a hF
 cases q1 : (rightIp c.ip : Bool)
 ·
  replace hF := hF.know (d := 6) (v' := .bool false) (by kernel_rfl) (congrArg Value.bool q1)
  refine Lo hF ?_; clear hF; intro a hF
  refine Lo hF ?_; clear hF; intro a hF
  refine Lo hF ?_; clear hF; intro a hF
  refine Vp hF (.bool false) ?_; clear hF; intro a hF
  refine Vp hF (.bool false) ?_; clear hF; intro a hF
  refine L_nil ?_
  refine hK2 _ _ ?_
  refine wp_ret ?_
  refine ret1 hF (v := .bool false) rfl (resT (by kernel_rfl)) (by refine ⟨?_, hO.nil⟩; unfold ptOk; simp [*]) .ret (.inl rfl)
 ·
  replace hF := hF.know (d := 6) (v' := .bool true) (by kernel_rfl) (congrArg Value.bool q1)
  refine Vp hF (.pointer (some ⟨b1, 17, none⟩)) ?_; clear hF; intro a hF
  refine Vr hF (.int .i64 (c.port)) (x_load (p := .pointer (some ⟨b1, 17, none⟩)) rfl (by kernel_rfl) (run_load1 (by kernel_rfl) ((hO.cell List.mem_cons_self).trans (by kernel_rfl)))) ?_; clear hF; intro a hF
  refine Lc hF (ports_Right c.port W2) ?_
  clear hF; rintro _ W3 a ⟨rfl, hk⟩ hF
  replace hO := hO.call0 hk; clear hk
  refine Vp hF (.bool (decide (1 ≤ c.port ∧ c.port ≤ 65535))) ?_; clear hF; intro a hF
  refine Vp hF (.bool (decide (1 ≤ c.port ∧ c.port ≤ 65535))) ?_; clear hF; intro a hF
  refine L_nil ?_
  refine hK2 _ _ ?_
  refine wp_ret ?_
  refine ret1 hF (v := .bool (decide (1 ≤ c.port ∧ c.port ≤ 65535))) rfl (resT (by kernel_rfl)) (by refine ⟨?_, hO.nil⟩; unfold ptOk; simp [*]) .ret (.inl rfl)

set_option maxRecDepth 20000 in
theorem ref04_PointK (c : Pt) (W : World) : Ret Tryz.prog 39 #[ptV c] W fun v W' => v = .bool (ptOk c) ∧ Own W noX [] W' := by
 refine enter Tryz.func39 rfl (n := 11) rfl (by kernel_rfl) (E0 := [(0, ptV c)]) (by kernel_rfl) ?_
 intro a hF; have hO := Own.start W noX
 refine wp_seq_k fun K1 hK1 => ?_
 refine wp_region_lit ?_
 refine L_new hF hO (by kernel_rfl) (by kernel_rfl) (vf := fun b => .pointer (some ⟨b, 0, none⟩)) (ob := .cells #[.bool c.ip.six, .int .u8 ((c.ip.b0.toNat : Int)), .int .u8 ((c.ip.b1.toNat : Int)), .int .u8 ((c.ip.b2.toNat : Int)), .int .u8 ((c.ip.b3.toNat : Int)), .int .u8 ((c.ip.b4.toNat : Int)), .int .u8 ((c.ip.b5.toNat : Int)), .int .u8 ((c.ip.b6.toNat : Int)), .int .u8 ((c.ip.b7.toNat : Int)), .int .u8 ((c.ip.b8.toNat : Int)), .int .u8 ((c.ip.b9.toNat : Int)), .int .u8 ((c.ip.b10.toNat : Int)), .int .u8 ((c.ip.b11.toNat : Int)), .int .u8 ((c.ip.b12.toNat : Int)), .int .u8 ((c.ip.b13.toNat : Int)), .int .u8 ((c.ip.b14.toNat : Int)), .int .u8 ((c.ip.b15.toNat : Int)), .int .i64 (c.port)] 45) (by kernel_rfl) (by kernel_rfl) ?_
 clear hF hO; intro b1 W1 a hO hF
 refine Vp hF (.bool false) ?_; clear hF; intro a hF
 refine L_nil ?_
 refine hK1 _ _ ?_
 refine wp_seq_k fun K2 hK2 => ?_
 refine wp_region_lit ?_
 refine Vp hF (.pointer (some ⟨b1, 0, none⟩)) ?_; clear hF; intro a hF
 refine Vr hF (ipV c.ip) (x_load (p := .pointer (some ⟨b1, 0, none⟩)) rfl (by kernel_rfl) (run_loadA (k := 17) (by kernel_rfl) (by kernel_rfl) (hO.blk List.mem_cons_self) (by kernel_rfl) (by kernel_rfl))) ?_; clear hF; intro a hF
 refine Lc hF (ref02_Right c.ip W1) ?_
 clear hF; rintro _ W2 a ⟨rfl, hk⟩ hF
 replace hO := hO.call0 hk; clear hk
 refine Vp hF (.bool (rightIp c.ip)) ?_; clear hF; intro a hF
 cases q1 : (rightIp c.ip : Bool)
 ·
  replace hF := hF.know (d := 6) (v' := .bool false) (by kernel_rfl) (congrArg Value.bool q1)
  refine Lo hF ?_; clear hF; intro a hF
  refine Lo hF ?_; clear hF; intro a hF
  refine Lo hF ?_; clear hF; intro a hF
  refine Vp hF (.bool false) ?_; clear hF; intro a hF
  refine Vp hF (.bool false) ?_; clear hF; intro a hF
  refine L_nil ?_
  refine hK2 _ _ ?_
  refine wp_ret ?_
  refine ret1 hF (v := .bool false) rfl (resT (by kernel_rfl)) (by refine ⟨?_, hO.nil⟩; unfold ptOk; simp [*]) .ret (.inl rfl)
 ·
  replace hF := hF.know (d := 6) (v' := .bool true) (by kernel_rfl) (congrArg Value.bool q1)
  refine Vp hF (.pointer (some ⟨b1, 17, none⟩)) ?_; clear hF; intro a hF
  refine Vr hF (.int .i64 (c.port)) (x_load (p := .pointer (some ⟨b1, 17, none⟩)) rfl (by kernel_rfl) (run_load1 (by kernel_rfl) ((hO.cell List.mem_cons_self).trans (by kernel_rfl)))) ?_; clear hF; intro a hF
  refine Lc hF (ref04_Right c.port W2) ?_
  clear hF; rintro _ W3 a ⟨rfl, hk⟩ hF
  replace hO := hO.call0 hk; clear hk
  refine Vp hF (.bool (decide (1 ≤ c.port ∧ c.port ≤ 65535))) ?_; clear hF; intro a hF
  refine Vp hF (.bool (decide (1 ≤ c.port ∧ c.port ≤ 65535))) ?_; clear hF; intro a hF
  refine L_nil ?_
  refine hK2 _ _ ?_
  refine wp_ret ?_
  refine ret1 hF (v := .bool (decide (1 ≤ c.port ∧ c.port ≤ 65535))) rfl (resT (by kernel_rfl)) (by refine ⟨?_, hO.nil⟩; unfold ptOk; simp [*]) .ret (.inl rfl)

theorem num_port (n : Int) (W : World) (h : 1 ≤ n ∧ n ≤ 65535) : Ret Tryz.prog 114 #[.int .i64 n] W fun v W' => v = .string ⟨(Lib.itoa n).toArray⟩ ∧ Own W noX [] W' := by
  obtain ⟨m, rfl⟩ := Int.eq_ofNat_of_zero_le (show 0 ≤ n by omega)
  rw [itoa_nat]
  exact ref04_Numeral m W (by omega)
theorem itoa_pt {n : Int} (h : 1 ≤ n ∧ n ≤ 65535) : (Lib.itoa n).length ≤ 5 := by
  obtain ⟨m, rfl⟩ := Int.eq_ofNat_of_zero_le (show 0 ≤ n by omega)
  rw [itoa_nat]
  exact dd_len 4 m (by omega)
theorem fmtPt_no {c : Pt} (h : ptOk c = false) : fmtPt c = ⟨#[]⟩ := by unfold fmtPt; rw [if_neg (by rw [h]; simp)]
theorem fmtPt_six {c : Pt} (h : ptOk c = true) (h6 : c.ip.six = true) : fmtPt c = ⟨#[91]⟩ ++ fmtS c.ip ++ ⟨#[93, 58]⟩ ++ ⟨(Lib.itoa c.port).toArray⟩ := by unfold fmtPt; rw [if_pos h, if_pos h6]
theorem fmtPt_four {c : Pt} (h : ptOk c = true) (h6 : c.ip.six = false) : fmtPt c = fmtS c.ip ++ ⟨#[58]⟩ ++ ⟨(Lib.itoa c.port).toArray⟩ := by unfold fmtPt; rw [if_pos h, if_neg (by rw [h6]; simp)]
theorem fmtPt_six' {c : Pt} (h : ptOk c = true) (h6 : c.ip.six = true) : fmtPt c = ⟨#[91]⟩ ++ fmtS c.ip ++ ⟨#[93]⟩ ++ ⟨#[58]⟩ ++ ⟨(Lib.itoa c.port).toArray⟩ := by
  rw [fmtPt_six h h6, ByteArray.append_assoc (c := ⟨#[58]⟩)]; rfl
theorem fmtPt_len (c : Pt) : (fmtPt c).size ≤ 60 := by
  have h1 := fmtS_len c.ip
  unfold fmtPt
  split
  · rename_i h
    have h2 := itoa_pt (ptOk_iff.1 h).2
    split
    · simp only [ByteArray.size_append]; simp only [ByteArray.size, List.size_toArray, List.length_cons, List.length_nil] at *; omega
    · simp only [ByteArray.size_append]; simp only [ByteArray.size, List.size_toArray, List.length_cons, List.length_nil] at *; omega
  · exact Nat.zero_le _
set_option maxRecDepth 20000 in
theorem ports_Format (c : Pt) (W : World) (hG : LibW W) : Ret Tryz.prog 68 #[ptV c] W fun v W' => v = .string (fmtPt c) ∧ Own W noX [] W' := by
 refine enter Tryz.func68 rfl (n := 22) rfl (by kernel_rfl) (E0 := [(0, ptV c)]) (by kernel_rfl) ?_
 intro a hF; have hO := Own.start W noX
 refine wp_seq_k fun K1 hK1 => ?_
 refine wp_region_lit ?_
 refine L_new hF hO (by kernel_rfl) (by kernel_rfl) (vf := fun b => .pointer (some ⟨b, 0, none⟩)) (ob := .cells #[.bool c.ip.six, .int .u8 ((c.ip.b0.toNat : Int)), .int .u8 ((c.ip.b1.toNat : Int)), .int .u8 ((c.ip.b2.toNat : Int)), .int .u8 ((c.ip.b3.toNat : Int)), .int .u8 ((c.ip.b4.toNat : Int)), .int .u8 ((c.ip.b5.toNat : Int)), .int .u8 ((c.ip.b6.toNat : Int)), .int .u8 ((c.ip.b7.toNat : Int)), .int .u8 ((c.ip.b8.toNat : Int)), .int .u8 ((c.ip.b9.toNat : Int)), .int .u8 ((c.ip.b10.toNat : Int)), .int .u8 ((c.ip.b11.toNat : Int)), .int .u8 ((c.ip.b12.toNat : Int)), .int .u8 ((c.ip.b13.toNat : Int)), .int .u8 ((c.ip.b14.toNat : Int)), .int .u8 ((c.ip.b15.toNat : Int)), .int .i64 (c.port)] 45) (by kernel_rfl) (by kernel_rfl) ?_
 clear hF hO; intro b1 W1 a hO hF
 refine Vp hF (.string (⟨#[]⟩ : ByteArray)) ?_; clear hF; intro a hF
 refine L_nil ?_
 refine hK1 _ _ ?_
 refine wp_seq_k fun K2 hK2 => ?_
 refine wp_seq_k fun K3 hK3 => ?_
 refine wp_region_lit ?_
 refine Vr hF (.agg #[.bool c.ip.six, .int .u8 ((c.ip.b0.toNat : Int)), .int .u8 ((c.ip.b1.toNat : Int)), .int .u8 ((c.ip.b2.toNat : Int)), .int .u8 ((c.ip.b3.toNat : Int)), .int .u8 ((c.ip.b4.toNat : Int)), .int .u8 ((c.ip.b5.toNat : Int)), .int .u8 ((c.ip.b6.toNat : Int)), .int .u8 ((c.ip.b7.toNat : Int)), .int .u8 ((c.ip.b8.toNat : Int)), .int .u8 ((c.ip.b9.toNat : Int)), .int .u8 ((c.ip.b10.toNat : Int)), .int .u8 ((c.ip.b11.toNat : Int)), .int .u8 ((c.ip.b12.toNat : Int)), .int .u8 ((c.ip.b13.toNat : Int)), .int .u8 ((c.ip.b14.toNat : Int)), .int .u8 ((c.ip.b15.toNat : Int)), .int .i64 (c.port)]) (x_load (p := .pointer (some ⟨b1, 0, none⟩)) rfl (by kernel_rfl) (run_loadA (k := 18) (by kernel_rfl) (by kernel_rfl) (hO.blk List.mem_cons_self) (by kernel_rfl) (by kernel_rfl))) ?_; clear hF; intro a hF
 refine Lc hF (ports_Point c W1) ?_
 clear hF; rintro _ W2 a ⟨rfl, hk⟩ hF
 replace hO := hO.call0 hk; clear hk
 refine Vp hF (.bool (!(ptOk c))) ?_; clear hF; intro a hF
 refine L_nil ?_
 refine hK3 _ _ ?_
 cases q1 : (ptOk c : Bool)
 ·
  replace hF := hF.know (d := 6) (v' := .bool true) (by kernel_rfl) (congrArg Value.bool (notT q1))
  refine cond_t hF (by kernel_rfl) (by kernel_rfl) ?_
  refine wp_seq_k fun K4 hK4 => ?_
  refine wp_region_lit ?_
  refine Vp hF (.string (⟨#[]⟩ : ByteArray)) ?_; clear hF; intro a hF
  refine L_nil ?_
  refine hK4 _ _ ?_
  refine wp_ret ?_
  refine then_ret ?_
  refine ret1 hF (v := .string (⟨#[]⟩ : ByteArray)) rfl (resT (by kernel_rfl)) (by refine ⟨?_, hO.nil⟩; first | (rw [fmtPt_no (by assumption)]; done) | (rw [fmtPt_six (by assumption) (by assumption)]; done) | (rw [fmtPt_six' (by assumption) (by assumption)]; done) | (rw [fmtPt_four (by assumption) (by assumption)]; done)) .ret (.inl rfl)
 ·
  replace hF := hF.know (d := 6) (v' := .bool false) (by kernel_rfl) (congrArg Value.bool (notF q1))
  refine cond_f hF (by kernel_rfl) (by kernel_rfl) ?_
  refine wp_skip ?_
  refine hK2 _ _ ?_
  refine wp_seq_k fun K5 hK5 => ?_
  refine wp_region_lit ?_
  refine Vp hF (.pointer (some ⟨b1, 0, none⟩)) ?_; clear hF; intro a hF
  refine Vr hF (ipV c.ip) (x_load (p := .pointer (some ⟨b1, 0, none⟩)) rfl (by kernel_rfl) (run_loadA (k := 17) (by kernel_rfl) (by kernel_rfl) (hO.blk List.mem_cons_self) (by kernel_rfl) (by kernel_rfl))) ?_; clear hF; intro a hF
  refine Lc hF (addr_Format c.ip W2 (hG.own hO)) ?_
  clear hF; rintro _ W3 a ⟨rfl, hk⟩ hF
  replace hO := hO.call0 hk; clear hk
  refine Vp hF (.string (fmtS c.ip)) ?_; clear hF; intro a hF
  refine L_nil ?_
  refine hK5 _ _ ?_
  refine wp_seq_k fun K6 hK6 => ?_
  refine wp_seq_k fun K7 hK7 => ?_
  refine wp_region_lit ?_
  refine Vp hF (.pointer (some ⟨b1, 0, none⟩)) ?_; clear hF; intro a hF
  refine Vp hF (.pointer (some ⟨b1, 0, none⟩)) ?_; clear hF; intro a hF
  refine Vr hF (.bool c.ip.six) (x_load (p := .pointer (some ⟨b1, 0, none⟩)) rfl (by kernel_rfl) (run_load1 (by kernel_rfl) ((hO.cell List.mem_cons_self).trans (by kernel_rfl)))) ?_; clear hF; intro a hF
  refine L_nil ?_
  refine hK7 _ _ ?_
  cases q2 : (c.ip.six : Bool)
  ·
   replace hF := hF.know (d := 12) (v' := .bool false) (by kernel_rfl) (congrArg Value.bool q2)
   refine cond_f hF (by kernel_rfl) (by kernel_rfl) ?_
   refine wp_skip ?_
   refine hK6 _ _ ?_
   refine wp_seq_k fun K8 hK8 => ?_
   refine wp_region_lit ?_
   refine Vp hF (.string (fmtS c.ip)) ?_; clear hF; intro a hF
   refine Vr hF (.string ((fmtS c.ip) ++ (⟨#[58]⟩ : ByteArray))) (x_cat (s := fmtS c.ip) (t := (⟨#[58]⟩ : ByteArray)) rfl (by kernel_rfl) (by kernel_rfl) (by (first | omega | (have hb := (ptOk_iff (c := c)).1 (by assumption); omega) | (have hb := (ptOk_iff (c := c)).1 (by assumption); have h1 := fmtS_len c.ip; have h2 := itoa_pt hb.2; (try simp only [ByteArray.size_append]); (simp only [ByteArray.size, List.size_toArray, List.length_cons, List.length_nil] at *); omega)))) ?_; clear hF; intro a hF
   refine Vp hF (.pointer (some ⟨b1, 17, none⟩)) ?_; clear hF; intro a hF
   refine Vr hF (.int .i64 (c.port)) (x_load (p := .pointer (some ⟨b1, 17, none⟩)) rfl (by kernel_rfl) (run_load1 (by kernel_rfl) ((hO.cell List.mem_cons_self).trans (by kernel_rfl)))) ?_; clear hF; intro a hF
   refine Lc hF (itoa_ret c.port W3 (hG.own hO) (by (first | omega | (have hb := (ptOk_iff (c := c)).1 (by assumption); omega) | (have hb := (ptOk_iff (c := c)).1 (by assumption); have h1 := fmtS_len c.ip; have h2 := itoa_pt hb.2; (try simp only [ByteArray.size_append]); (simp only [ByteArray.size, List.size_toArray, List.length_cons, List.length_nil] at *); omega))) (by (first | omega | (have hb := (ptOk_iff (c := c)).1 (by assumption); omega) | (have hb := (ptOk_iff (c := c)).1 (by assumption); have h1 := fmtS_len c.ip; have h2 := itoa_pt hb.2; (try simp only [ByteArray.size_append]); (simp only [ByteArray.size, List.size_toArray, List.length_cons, List.length_nil] at *); omega)))) ?_
   clear hF; rintro _ W4 a ⟨rfl, hk⟩ hF
   replace hO := hO.call0 hk; clear hk
   refine Vr hF (.string (((fmtS c.ip) ++ (⟨#[58]⟩ : ByteArray)) ++ (⟨(Lib.itoa c.port).toArray⟩ : ByteArray))) (x_cat (s := (fmtS c.ip) ++ (⟨#[58]⟩ : ByteArray)) (t := (⟨(Lib.itoa c.port).toArray⟩ : ByteArray)) rfl (by kernel_rfl) (by kernel_rfl) (by (first | omega | (have hb := (ptOk_iff (c := c)).1 (by assumption); omega) | (have hb := (ptOk_iff (c := c)).1 (by assumption); have h1 := fmtS_len c.ip; have h2 := itoa_pt hb.2; (try simp only [ByteArray.size_append]); (simp only [ByteArray.size, List.size_toArray, List.length_cons, List.length_nil] at *); omega)))) ?_; clear hF; intro a hF
   refine Vp hF (.string (((fmtS c.ip) ++ (⟨#[58]⟩ : ByteArray)) ++ (⟨(Lib.itoa c.port).toArray⟩ : ByteArray))) ?_; clear hF; intro a hF
   refine L_nil ?_
   refine hK8 _ _ ?_
   refine wp_ret ?_
   refine ret1 hF (v := .string (((fmtS c.ip) ++ (⟨#[58]⟩ : ByteArray)) ++ (⟨(Lib.itoa c.port).toArray⟩ : ByteArray))) rfl (resT (by kernel_rfl)) (by refine ⟨?_, hO.nil⟩; first | (rw [fmtPt_no (by assumption)]; done) | (rw [fmtPt_six (by assumption) (by assumption)]; done) | (rw [fmtPt_six' (by assumption) (by assumption)]; done) | (rw [fmtPt_four (by assumption) (by assumption)]; done)) .ret (.inl rfl)
  ·
   replace hF := hF.know (d := 12) (v' := .bool true) (by kernel_rfl) (congrArg Value.bool q2)
   refine cond_t hF (by kernel_rfl) (by kernel_rfl) ?_
   refine wp_region_lit ?_
   refine Vp hF (.string (fmtS c.ip)) ?_; clear hF; intro a hF
   refine Vr hF (.string ((⟨#[91]⟩ : ByteArray) ++ (fmtS c.ip))) (x_cat (s := (⟨#[91]⟩ : ByteArray)) (t := fmtS c.ip) rfl (by kernel_rfl) (by kernel_rfl) (by (first | omega | (have hb := (ptOk_iff (c := c)).1 (by assumption); omega) | (have hb := (ptOk_iff (c := c)).1 (by assumption); have h1 := fmtS_len c.ip; have h2 := itoa_pt hb.2; (try simp only [ByteArray.size_append]); (simp only [ByteArray.size, List.size_toArray, List.length_cons, List.length_nil] at *); omega)))) ?_; clear hF; intro a hF
   refine Vr hF (.string (((⟨#[91]⟩ : ByteArray) ++ (fmtS c.ip)) ++ (⟨#[93]⟩ : ByteArray))) (x_cat (s := (⟨#[91]⟩ : ByteArray) ++ (fmtS c.ip)) (t := (⟨#[93]⟩ : ByteArray)) rfl (by kernel_rfl) (by kernel_rfl) (by (first | omega | (have hb := (ptOk_iff (c := c)).1 (by assumption); omega) | (have hb := (ptOk_iff (c := c)).1 (by assumption); have h1 := fmtS_len c.ip; have h2 := itoa_pt hb.2; (try simp only [ByteArray.size_append]); (simp only [ByteArray.size, List.size_toArray, List.length_cons, List.length_nil] at *); omega)))) ?_; clear hF; intro a hF
   refine Vp hF (.string (((⟨#[91]⟩ : ByteArray) ++ (fmtS c.ip)) ++ (⟨#[93]⟩ : ByteArray))) ?_; clear hF; intro a hF
   refine L_nil ?_
   refine hK6 _ _ ?_
   refine wp_seq_k fun K9 hK9 => ?_
   refine wp_region_lit ?_
   refine Vp hF (.string (((⟨#[91]⟩ : ByteArray) ++ (fmtS c.ip)) ++ (⟨#[93]⟩ : ByteArray))) ?_; clear hF; intro a hF
   refine Vr hF (.string ((((⟨#[91]⟩ : ByteArray) ++ (fmtS c.ip)) ++ (⟨#[93]⟩ : ByteArray)) ++ (⟨#[58]⟩ : ByteArray))) (x_cat (s := ((⟨#[91]⟩ : ByteArray) ++ (fmtS c.ip)) ++ (⟨#[93]⟩ : ByteArray)) (t := (⟨#[58]⟩ : ByteArray)) rfl (by kernel_rfl) (by kernel_rfl) (by (first | omega | (have hb := (ptOk_iff (c := c)).1 (by assumption); omega) | (have hb := (ptOk_iff (c := c)).1 (by assumption); have h1 := fmtS_len c.ip; have h2 := itoa_pt hb.2; (try simp only [ByteArray.size_append]); (simp only [ByteArray.size, List.size_toArray, List.length_cons, List.length_nil] at *); omega)))) ?_; clear hF; intro a hF
   refine Vp hF (.pointer (some ⟨b1, 17, none⟩)) ?_; clear hF; intro a hF
   refine Vr hF (.int .i64 (c.port)) (x_load (p := .pointer (some ⟨b1, 17, none⟩)) rfl (by kernel_rfl) (run_load1 (by kernel_rfl) ((hO.cell List.mem_cons_self).trans (by kernel_rfl)))) ?_; clear hF; intro a hF
   refine Lc hF (itoa_ret c.port W3 (hG.own hO) (by (first | omega | (have hb := (ptOk_iff (c := c)).1 (by assumption); omega) | (have hb := (ptOk_iff (c := c)).1 (by assumption); have h1 := fmtS_len c.ip; have h2 := itoa_pt hb.2; (try simp only [ByteArray.size_append]); (simp only [ByteArray.size, List.size_toArray, List.length_cons, List.length_nil] at *); omega))) (by (first | omega | (have hb := (ptOk_iff (c := c)).1 (by assumption); omega) | (have hb := (ptOk_iff (c := c)).1 (by assumption); have h1 := fmtS_len c.ip; have h2 := itoa_pt hb.2; (try simp only [ByteArray.size_append]); (simp only [ByteArray.size, List.size_toArray, List.length_cons, List.length_nil] at *); omega)))) ?_
   clear hF; rintro _ W5 a ⟨rfl, hk⟩ hF
   replace hO := hO.call0 hk; clear hk
   refine Vr hF (.string (((((⟨#[91]⟩ : ByteArray) ++ (fmtS c.ip)) ++ (⟨#[93]⟩ : ByteArray)) ++ (⟨#[58]⟩ : ByteArray)) ++ (⟨(Lib.itoa c.port).toArray⟩ : ByteArray))) (x_cat (s := (((⟨#[91]⟩ : ByteArray) ++ (fmtS c.ip)) ++ (⟨#[93]⟩ : ByteArray)) ++ (⟨#[58]⟩ : ByteArray)) (t := (⟨(Lib.itoa c.port).toArray⟩ : ByteArray)) rfl (by kernel_rfl) (by kernel_rfl) (by (first | omega | (have hb := (ptOk_iff (c := c)).1 (by assumption); omega) | (have hb := (ptOk_iff (c := c)).1 (by assumption); have h1 := fmtS_len c.ip; have h2 := itoa_pt hb.2; (try simp only [ByteArray.size_append]); (simp only [ByteArray.size, List.size_toArray, List.length_cons, List.length_nil] at *); omega)))) ?_; clear hF; intro a hF
   refine Vp hF (.string (((((⟨#[91]⟩ : ByteArray) ++ (fmtS c.ip)) ++ (⟨#[93]⟩ : ByteArray)) ++ (⟨#[58]⟩ : ByteArray)) ++ (⟨(Lib.itoa c.port).toArray⟩ : ByteArray))) ?_; clear hF; intro a hF
   refine L_nil ?_
   refine hK9 _ _ ?_
   refine wp_ret ?_
   refine ret1 hF (v := .string (((((⟨#[91]⟩ : ByteArray) ++ (fmtS c.ip)) ++ (⟨#[93]⟩ : ByteArray)) ++ (⟨#[58]⟩ : ByteArray)) ++ (⟨(Lib.itoa c.port).toArray⟩ : ByteArray))) rfl (resT (by kernel_rfl)) (by refine ⟨?_, hO.nil⟩; first | (rw [fmtPt_no (by assumption)]; done) | (rw [fmtPt_six (by assumption) (by assumption)]; done) | (rw [fmtPt_six' (by assumption) (by assumption)]; done) | (rw [fmtPt_four (by assumption) (by assumption)]; done)) .ret (.inl rfl)

set_option maxRecDepth 20000 in
theorem ref04_Format (c : Pt) (W : World) : Ret Tryz.prog 70 #[ptV c] W fun v W' => v = .string (fmtPt c) ∧ Own W noX [] W' := by
 refine enter Tryz.func70 rfl (n := 26) rfl (by kernel_rfl) (E0 := [(0, ptV c)]) (by kernel_rfl) ?_
 intro a hF; have hO := Own.start W noX
 refine wp_seq_k fun K1 hK1 => ?_
 refine wp_region_lit ?_
 refine L_new hF hO (by kernel_rfl) (by kernel_rfl) (vf := fun b => .pointer (some ⟨b, 0, none⟩)) (ob := .cells #[.bool c.ip.six, .int .u8 ((c.ip.b0.toNat : Int)), .int .u8 ((c.ip.b1.toNat : Int)), .int .u8 ((c.ip.b2.toNat : Int)), .int .u8 ((c.ip.b3.toNat : Int)), .int .u8 ((c.ip.b4.toNat : Int)), .int .u8 ((c.ip.b5.toNat : Int)), .int .u8 ((c.ip.b6.toNat : Int)), .int .u8 ((c.ip.b7.toNat : Int)), .int .u8 ((c.ip.b8.toNat : Int)), .int .u8 ((c.ip.b9.toNat : Int)), .int .u8 ((c.ip.b10.toNat : Int)), .int .u8 ((c.ip.b11.toNat : Int)), .int .u8 ((c.ip.b12.toNat : Int)), .int .u8 ((c.ip.b13.toNat : Int)), .int .u8 ((c.ip.b14.toNat : Int)), .int .u8 ((c.ip.b15.toNat : Int)), .int .i64 (c.port)] 45) (by kernel_rfl) (by kernel_rfl) ?_
 clear hF hO; intro b1 W1 a hO hF
 refine Vp hF (.string (⟨#[]⟩ : ByteArray)) ?_; clear hF; intro a hF
 refine L_nil ?_
 refine hK1 _ _ ?_
 refine wp_seq_k fun K2 hK2 => ?_
 refine wp_seq_k fun K3 hK3 => ?_
 refine wp_region_lit ?_
 refine Vr hF (.agg #[.bool c.ip.six, .int .u8 ((c.ip.b0.toNat : Int)), .int .u8 ((c.ip.b1.toNat : Int)), .int .u8 ((c.ip.b2.toNat : Int)), .int .u8 ((c.ip.b3.toNat : Int)), .int .u8 ((c.ip.b4.toNat : Int)), .int .u8 ((c.ip.b5.toNat : Int)), .int .u8 ((c.ip.b6.toNat : Int)), .int .u8 ((c.ip.b7.toNat : Int)), .int .u8 ((c.ip.b8.toNat : Int)), .int .u8 ((c.ip.b9.toNat : Int)), .int .u8 ((c.ip.b10.toNat : Int)), .int .u8 ((c.ip.b11.toNat : Int)), .int .u8 ((c.ip.b12.toNat : Int)), .int .u8 ((c.ip.b13.toNat : Int)), .int .u8 ((c.ip.b14.toNat : Int)), .int .u8 ((c.ip.b15.toNat : Int)), .int .i64 (c.port)]) (x_load (p := .pointer (some ⟨b1, 0, none⟩)) rfl (by kernel_rfl) (run_loadA (k := 18) (by kernel_rfl) (by kernel_rfl) (hO.blk List.mem_cons_self) (by kernel_rfl) (by kernel_rfl))) ?_; clear hF; intro a hF
 refine Lc hF (ref04_PointK c W1) ?_
 clear hF; rintro _ W2 a ⟨rfl, hk⟩ hF
 replace hO := hO.call0 hk; clear hk
 refine Vp hF (.bool (!(ptOk c))) ?_; clear hF; intro a hF
 refine L_nil ?_
 refine hK3 _ _ ?_
 cases q1 : (ptOk c : Bool)
 ·
  replace hF := hF.know (d := 5) (v' := .bool true) (by kernel_rfl) (congrArg Value.bool (notT q1))
  refine cond_t hF (by kernel_rfl) (by kernel_rfl) ?_
  refine wp_seq_k fun K4 hK4 => ?_
  refine wp_region_lit ?_
  refine Vp hF (.string (⟨#[]⟩ : ByteArray)) ?_; clear hF; intro a hF
  refine L_nil ?_
  refine hK4 _ _ ?_
  refine wp_ret ?_
  refine then_ret ?_
  refine ret1 hF (v := .string (⟨#[]⟩ : ByteArray)) rfl (resT (by kernel_rfl)) (by refine ⟨?_, hO.nil⟩; first | (rw [fmtPt_no (by assumption)]; done) | (rw [fmtPt_six (by assumption) (by assumption)]; done) | (rw [fmtPt_six' (by assumption) (by assumption)]; done) | (rw [fmtPt_four (by assumption) (by assumption)]; done)) .ret (.inl rfl)
 ·
  replace hF := hF.know (d := 5) (v' := .bool false) (by kernel_rfl) (congrArg Value.bool (notF q1))
  refine cond_f hF (by kernel_rfl) (by kernel_rfl) ?_
  refine wp_skip ?_
  refine hK2 _ _ ?_
  refine wp_seq_k fun K5 hK5 => ?_
  refine wp_seq_k fun K6 hK6 => ?_
  refine wp_region_lit ?_
  refine Vp hF (.pointer (some ⟨b1, 0, none⟩)) ?_; clear hF; intro a hF
  refine Vp hF (.pointer (some ⟨b1, 0, none⟩)) ?_; clear hF; intro a hF
  refine Vr hF (.bool c.ip.six) (x_load (p := .pointer (some ⟨b1, 0, none⟩)) rfl (by kernel_rfl) (run_load1 (by kernel_rfl) ((hO.cell List.mem_cons_self).trans (by kernel_rfl)))) ?_; clear hF; intro a hF
  refine L_nil ?_
  refine hK6 _ _ ?_
  cases q2 : (c.ip.six : Bool)
  ·
   replace hF := hF.know (d := 8) (v' := .bool false) (by kernel_rfl) (congrArg Value.bool q2)
   refine cond_f hF (by kernel_rfl) (by kernel_rfl) ?_
   refine wp_skip ?_
   refine hK5 _ _ ?_
   refine wp_seq_k fun K7 hK7 => ?_
   refine A_start (fun Wx => Own W noX [.blk b1 (.cells #[.bool c.ip.six, .int .u8 ((c.ip.b0.toNat : Int)), .int .u8 ((c.ip.b1.toNat : Int)), .int .u8 ((c.ip.b2.toNat : Int)), .int .u8 ((c.ip.b3.toNat : Int)), .int .u8 ((c.ip.b4.toNat : Int)), .int .u8 ((c.ip.b5.toNat : Int)), .int .u8 ((c.ip.b6.toNat : Int)), .int .u8 ((c.ip.b7.toNat : Int)), .int .u8 ((c.ip.b8.toNat : Int)), .int .u8 ((c.ip.b9.toNat : Int)), .int .u8 ((c.ip.b10.toNat : Int)), .int .u8 ((c.ip.b11.toNat : Int)), .int .u8 ((c.ip.b12.toNat : Int)), .int .u8 ((c.ip.b13.toNat : Int)), .int .u8 ((c.ip.b14.toNat : Int)), .int .u8 ((c.ip.b15.toNat : Int)), .int .i64 (c.port)] 45 (0, 0))] Wx) (by kernel_rfl) ?_
   replace hO := hO.drewN 1
   generalize hWd : ({ W2 with drawn := W2.drawn + 1 } : World) = W2_d at hO ⊢; clear hWd
   have hS := hO.sub (.cons_cons _ (List.nil_sublist _))
   refine Tk 0 rfl hF (.pointer (some ⟨b1, 0, none⟩)) (fun Wx _ => by kernel_rfl) hS ?_; clear hF; intro a hF
   refine Tk 1 rfl hF (ipV c.ip) (fun Wx hO => x_load (p := .pointer (some ⟨b1, 0, none⟩)) rfl (by kernel_rfl) (run_loadA (k := 17) (by kernel_rfl) (by kernel_rfl) (hO.blk List.mem_cons_self) (by kernel_rfl) (by kernel_rfl))) hS ?_; clear hF; intro a hF
   refine Tk 4 rfl hF (.pointer (some ⟨b1, 17, none⟩)) (fun Wx _ => by kernel_rfl) hS ?_; clear hF; intro a hF
   refine Tk 5 rfl hF (.int .i64 (c.port)) (fun Wx hO => x_load (p := .pointer (some ⟨b1, 17, none⟩)) rfl (by kernel_rfl) (run_load1 (by kernel_rfl) ((hO.cell List.mem_cons_self).trans (by kernel_rfl)))) hS ?_; clear hF; intro a hF
   refine A_one (i := 2) (listed' := #[true, true, true, false, true, true, false, false, false]) (by kernel_rfl) rfl (by kernel_rfl) ?_
   refine OpK.lc hF (ref02_Format c.ip W2_d) ?_
   clear hF; rintro _ W3 a ⟨rfl, hk⟩ hF
   replace hO := hO.call0 hk; clear hk
   refine ⟨hO.sub (.cons_cons _ (List.nil_sublist _)), ?_⟩
   have hS := hO.sub (.cons_cons _ (List.nil_sublist _))
   refine Tk 3 rfl hF (.string ((fmtS c.ip) ++ (⟨#[58]⟩ : ByteArray))) (fun Wx _ => (x_cat (s := fmtS c.ip) (t := (⟨#[58]⟩ : ByteArray)) rfl (by kernel_rfl) (by kernel_rfl) (by (first | omega | (have hb := (ptOk_iff (c := c)).1 (by assumption); omega) | (have hb := (ptOk_iff (c := c)).1 (by assumption); have h1 := fmtS_len c.ip; have h2 := itoa_pt hb.2; (try simp only [ByteArray.size_append]); (simp only [ByteArray.size, List.size_toArray, List.length_cons, List.length_nil] at *); omega))))) hS ?_; clear hF; intro a hF
   refine A_one (i := 6) (listed' := #[true, true, true, true, true, true, true, false, false]) (by kernel_rfl) rfl (by kernel_rfl) ?_
   refine OpK.lc hF (num_port c.port W3 (by (first | omega | (have hb := (ptOk_iff (c := c)).1 (by assumption); omega) | (have hb := (ptOk_iff (c := c)).1 (by assumption); have h1 := fmtS_len c.ip; have h2 := itoa_pt hb.2; (try simp only [ByteArray.size_append]); (simp only [ByteArray.size, List.size_toArray, List.length_cons, List.length_nil] at *); omega)))) ?_
   clear hF; rintro _ W4 a ⟨rfl, hk⟩ hF
   replace hO := hO.call0 hk; clear hk
   refine ⟨hO.sub (.cons_cons _ (List.nil_sublist _)), ?_⟩
   have hS := hO.sub (.cons_cons _ (List.nil_sublist _))
   refine Tk 7 rfl hF (.string (((fmtS c.ip) ++ (⟨#[58]⟩ : ByteArray)) ++ (⟨(Lib.itoa c.port).toArray⟩ : ByteArray))) (fun Wx _ => (x_cat (s := (fmtS c.ip) ++ (⟨#[58]⟩ : ByteArray)) (t := (⟨(Lib.itoa c.port).toArray⟩ : ByteArray)) rfl (by kernel_rfl) (by kernel_rfl) (by (first | omega | (have hb := (ptOk_iff (c := c)).1 (by assumption); omega) | (have hb := (ptOk_iff (c := c)).1 (by assumption); have h1 := fmtS_len c.ip; have h2 := itoa_pt hb.2; (try simp only [ByteArray.size_append]); (simp only [ByteArray.size, List.size_toArray, List.length_cons, List.length_nil] at *); omega))))) hS ?_; clear hF; intro a hF
   refine Tk 8 rfl hF (.string (((fmtS c.ip) ++ (⟨#[58]⟩ : ByteArray)) ++ (⟨(Lib.itoa c.port).toArray⟩ : ByteArray))) (fun Wx _ => by kernel_rfl) hS ?_; clear hF; intro a hF
   refine A_done (by kernel_rfl) ?_
   refine hK7 _ _ ?_
   refine wp_ret ?_
   refine ret1 hF (v := .string (((fmtS c.ip) ++ (⟨#[58]⟩ : ByteArray)) ++ (⟨(Lib.itoa c.port).toArray⟩ : ByteArray))) rfl (resT (by kernel_rfl)) (by refine ⟨?_, hO.nil⟩; first | (rw [fmtPt_no (by assumption)]; done) | (rw [fmtPt_six (by assumption) (by assumption)]; done) | (rw [fmtPt_six' (by assumption) (by assumption)]; done) | (rw [fmtPt_four (by assumption) (by assumption)]; done)) .ret (.inl rfl)
  ·
   replace hF := hF.know (d := 8) (v' := .bool true) (by kernel_rfl) (congrArg Value.bool q2)
   refine cond_t hF (by kernel_rfl) (by kernel_rfl) ?_
   refine wp_seq_k fun K8 hK8 => ?_
   refine A_start (fun Wx => Own W noX [.blk b1 (.cells #[.bool c.ip.six, .int .u8 ((c.ip.b0.toNat : Int)), .int .u8 ((c.ip.b1.toNat : Int)), .int .u8 ((c.ip.b2.toNat : Int)), .int .u8 ((c.ip.b3.toNat : Int)), .int .u8 ((c.ip.b4.toNat : Int)), .int .u8 ((c.ip.b5.toNat : Int)), .int .u8 ((c.ip.b6.toNat : Int)), .int .u8 ((c.ip.b7.toNat : Int)), .int .u8 ((c.ip.b8.toNat : Int)), .int .u8 ((c.ip.b9.toNat : Int)), .int .u8 ((c.ip.b10.toNat : Int)), .int .u8 ((c.ip.b11.toNat : Int)), .int .u8 ((c.ip.b12.toNat : Int)), .int .u8 ((c.ip.b13.toNat : Int)), .int .u8 ((c.ip.b14.toNat : Int)), .int .u8 ((c.ip.b15.toNat : Int)), .int .i64 (c.port)] 45 (0, 0))] Wx) (by kernel_rfl) ?_
   replace hO := hO.drewN 1
   generalize hWd : ({ W2 with drawn := W2.drawn + 1 } : World) = W2_d at hO ⊢; clear hWd
   have hS := hO.sub (.cons_cons _ (List.nil_sublist _))
   refine Tk 0 rfl hF (.pointer (some ⟨b1, 0, none⟩)) (fun Wx _ => by kernel_rfl) hS ?_; clear hF; intro a hF
   refine Tk 1 rfl hF (ipV c.ip) (fun Wx hO => x_load (p := .pointer (some ⟨b1, 0, none⟩)) rfl (by kernel_rfl) (run_loadA (k := 17) (by kernel_rfl) (by kernel_rfl) (hO.blk List.mem_cons_self) (by kernel_rfl) (by kernel_rfl))) hS ?_; clear hF; intro a hF
   refine Tk 5 rfl hF (.pointer (some ⟨b1, 17, none⟩)) (fun Wx _ => by kernel_rfl) hS ?_; clear hF; intro a hF
   refine Tk 6 rfl hF (.int .i64 (c.port)) (fun Wx hO => x_load (p := .pointer (some ⟨b1, 17, none⟩)) rfl (by kernel_rfl) (run_load1 (by kernel_rfl) ((hO.cell List.mem_cons_self).trans (by kernel_rfl)))) hS ?_; clear hF; intro a hF
   refine A_one (i := 2) (listed' := #[true, true, true, false, false, true, true, false, false, false]) (by kernel_rfl) rfl (by kernel_rfl) ?_
   refine OpK.lc hF (ref02_Format c.ip W2_d) ?_
   clear hF; rintro _ W5 a ⟨rfl, hk⟩ hF
   replace hO := hO.call0 hk; clear hk
   refine ⟨hO.sub (.cons_cons _ (List.nil_sublist _)), ?_⟩
   have hS := hO.sub (.cons_cons _ (List.nil_sublist _))
   refine Tk 3 rfl hF (.string ((⟨#[91]⟩ : ByteArray) ++ (fmtS c.ip))) (fun Wx _ => (x_cat (s := (⟨#[91]⟩ : ByteArray)) (t := fmtS c.ip) rfl (by kernel_rfl) (by kernel_rfl) (by (first | omega | (have hb := (ptOk_iff (c := c)).1 (by assumption); omega) | (have hb := (ptOk_iff (c := c)).1 (by assumption); have h1 := fmtS_len c.ip; have h2 := itoa_pt hb.2; (try simp only [ByteArray.size_append]); (simp only [ByteArray.size, List.size_toArray, List.length_cons, List.length_nil] at *); omega))))) hS ?_; clear hF; intro a hF
   refine Tk 4 rfl hF (.string (((⟨#[91]⟩ : ByteArray) ++ (fmtS c.ip)) ++ (⟨#[93, 58]⟩ : ByteArray))) (fun Wx _ => (x_cat (s := (⟨#[91]⟩ : ByteArray) ++ (fmtS c.ip)) (t := (⟨#[93, 58]⟩ : ByteArray)) rfl (by kernel_rfl) (by kernel_rfl) (by (first | omega | (have hb := (ptOk_iff (c := c)).1 (by assumption); omega) | (have hb := (ptOk_iff (c := c)).1 (by assumption); have h1 := fmtS_len c.ip; have h2 := itoa_pt hb.2; (try simp only [ByteArray.size_append]); (simp only [ByteArray.size, List.size_toArray, List.length_cons, List.length_nil] at *); omega))))) hS ?_; clear hF; intro a hF
   refine A_one (i := 7) (listed' := #[true, true, true, true, true, true, true, true, false, false]) (by kernel_rfl) rfl (by kernel_rfl) ?_
   refine OpK.lc hF (num_port c.port W5 (by (first | omega | (have hb := (ptOk_iff (c := c)).1 (by assumption); omega) | (have hb := (ptOk_iff (c := c)).1 (by assumption); have h1 := fmtS_len c.ip; have h2 := itoa_pt hb.2; (try simp only [ByteArray.size_append]); (simp only [ByteArray.size, List.size_toArray, List.length_cons, List.length_nil] at *); omega)))) ?_
   clear hF; rintro _ W6 a ⟨rfl, hk⟩ hF
   replace hO := hO.call0 hk; clear hk
   refine ⟨hO.sub (.cons_cons _ (List.nil_sublist _)), ?_⟩
   have hS := hO.sub (.cons_cons _ (List.nil_sublist _))
   refine Tk 8 rfl hF (.string ((((⟨#[91]⟩ : ByteArray) ++ (fmtS c.ip)) ++ (⟨#[93, 58]⟩ : ByteArray)) ++ (⟨(Lib.itoa c.port).toArray⟩ : ByteArray))) (fun Wx _ => (x_cat (s := ((⟨#[91]⟩ : ByteArray) ++ (fmtS c.ip)) ++ (⟨#[93, 58]⟩ : ByteArray)) (t := (⟨(Lib.itoa c.port).toArray⟩ : ByteArray)) rfl (by kernel_rfl) (by kernel_rfl) (by (first | omega | (have hb := (ptOk_iff (c := c)).1 (by assumption); omega) | (have hb := (ptOk_iff (c := c)).1 (by assumption); have h1 := fmtS_len c.ip; have h2 := itoa_pt hb.2; (try simp only [ByteArray.size_append]); (simp only [ByteArray.size, List.size_toArray, List.length_cons, List.length_nil] at *); omega))))) hS ?_; clear hF; intro a hF
   refine Tk 9 rfl hF (.string ((((⟨#[91]⟩ : ByteArray) ++ (fmtS c.ip)) ++ (⟨#[93, 58]⟩ : ByteArray)) ++ (⟨(Lib.itoa c.port).toArray⟩ : ByteArray))) (fun Wx _ => by kernel_rfl) hS ?_; clear hF; intro a hF
   refine A_done (by kernel_rfl) ?_
   refine hK8 _ _ ?_
   refine wp_ret ?_
   refine then_ret ?_
   refine ret1 hF (v := .string ((((⟨#[91]⟩ : ByteArray) ++ (fmtS c.ip)) ++ (⟨#[93, 58]⟩ : ByteArray)) ++ (⟨(Lib.itoa c.port).toArray⟩ : ByteArray))) rfl (resT (by kernel_rfl)) (by refine ⟨?_, hO.nil⟩; first | (rw [fmtPt_no (by assumption)]; done) | (rw [fmtPt_six (by assumption) (by assumption)]; done) | (rw [fmtPt_six' (by assumption) (by assumption)]; done) | (rw [fmtPt_four (by assumption) (by assumption)]; done)) .ret (.inl rfl)

end Go.Proofs.YthellfigmpjhlaaGreatDoor
