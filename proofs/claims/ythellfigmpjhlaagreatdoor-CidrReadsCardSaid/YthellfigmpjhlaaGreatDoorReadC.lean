import Derived.Test.YthellfigmpjhlaaGreatDoorOctR
import Derived.Test.YthellfigmpjhlaaGreatDoorC03
namespace Go.Proofs.YthellfigmpjhlaaGreatDoor
open Go Go.RowKit
set_option linter.unusedVariables false
set_option linter.unusedSimpArgs false
set_option maxRecDepth 20000 in
theorem cidr_Put (c : Pt) (W : World) : Ret Tryz.prog 71 #[ptV c] W fun v W' => ∃ q qc, v = .slice q (putCd c).length qc ∧ Own W noX [rowL u8L 1 5 q qc (putCd c)] W' := by
 have hz := putIp_len c.ip
 have hsz := size_le c.ip
 refine enter Tryz.func71 rfl (n := 11) rfl (by kernel_rfl) (E0 := [(0, ptV c)]) (by kernel_rfl) ?_
 intro a hF; have hO := Own.start W noX
 refine wp_seq_k fun K1 hK1 => ?_
 refine wp_region_lit ?_
 refine L_new hF hO (by kernel_rfl) (by kernel_rfl) (vf := fun b => .pointer (some ⟨b, 0, none⟩)) (ob := .cells #[.bool c.ip.six, .int .u8 ((c.ip.b0.toNat : Int)), .int .u8 ((c.ip.b1.toNat : Int)), .int .u8 ((c.ip.b2.toNat : Int)), .int .u8 ((c.ip.b3.toNat : Int)), .int .u8 ((c.ip.b4.toNat : Int)), .int .u8 ((c.ip.b5.toNat : Int)), .int .u8 ((c.ip.b6.toNat : Int)), .int .u8 ((c.ip.b7.toNat : Int)), .int .u8 ((c.ip.b8.toNat : Int)), .int .u8 ((c.ip.b9.toNat : Int)), .int .u8 ((c.ip.b10.toNat : Int)), .int .u8 ((c.ip.b11.toNat : Int)), .int .u8 ((c.ip.b12.toNat : Int)), .int .u8 ((c.ip.b13.toNat : Int)), .int .u8 ((c.ip.b14.toNat : Int)), .int .u8 ((c.ip.b15.toNat : Int)), .int .i64 (c.port)] 68) (by kernel_rfl) (by kernel_rfl) ?_
 clear hF hO; intro b1 W1 a hO hF
 refine Vp hF (.slice none 0 0) ?_; clear hF; intro a hF
 refine L_nil ?_
 refine hK1 _ _ ?_
 refine wp_seq_k fun K2 hK2 => ?_
 refine A_start (fun Wx => Own W noX [.blk b1 (.cells #[.bool c.ip.six, .int .u8 ((c.ip.b0.toNat : Int)), .int .u8 ((c.ip.b1.toNat : Int)), .int .u8 ((c.ip.b2.toNat : Int)), .int .u8 ((c.ip.b3.toNat : Int)), .int .u8 ((c.ip.b4.toNat : Int)), .int .u8 ((c.ip.b5.toNat : Int)), .int .u8 ((c.ip.b6.toNat : Int)), .int .u8 ((c.ip.b7.toNat : Int)), .int .u8 ((c.ip.b8.toNat : Int)), .int .u8 ((c.ip.b9.toNat : Int)), .int .u8 ((c.ip.b10.toNat : Int)), .int .u8 ((c.ip.b11.toNat : Int)), .int .u8 ((c.ip.b12.toNat : Int)), .int .u8 ((c.ip.b13.toNat : Int)), .int .u8 ((c.ip.b14.toNat : Int)), .int .u8 ((c.ip.b15.toNat : Int)), .int .i64 (c.port)] 68 (0, 0))] Wx) (by kernel_rfl) ?_
 replace hO := hO.drewN 1
 generalize hWd : ({ W1 with drawn := W1.drawn + 1 } : World) = W1_d at hO ⊢; clear hWd
 have hS := hO.sub (.cons_cons _ (List.nil_sublist _))
 refine Tk 0 rfl hF (.pointer (some ⟨b1, 0, none⟩)) (fun Wx _ => by kernel_rfl) hS ?_; clear hF; intro a hF
 refine Tk 1 rfl hF (ipV c.ip) (fun Wx hO => x_load (p := .pointer (some ⟨b1, 0, none⟩)) rfl (by kernel_rfl) (run_loadA (k := 17) (by kernel_rfl) (by kernel_rfl) (hO.blk List.mem_cons_self) (by kernel_rfl) (by kernel_rfl))) hS ?_; clear hF; intro a hF
 refine Tk 3 rfl hF (.pointer (some ⟨b1, 17, none⟩)) (fun Wx _ => by kernel_rfl) hS ?_; clear hF; intro a hF
 refine Tk 4 rfl hF (.int .i64 (c.port)) (fun Wx hO => x_load (p := .pointer (some ⟨b1, 17, none⟩)) rfl (by kernel_rfl) (run_load1 (by kernel_rfl) ((hO.cell List.mem_cons_self).trans (by kernel_rfl)))) hS ?_; clear hF; intro a hF
 refine Tk 5 rfl hF (.int .u8 (((ub c.port).toNat : Int))) (fun Wx _ => (x_int (x := IntKind.u8.wrap (c.port)) (ub_wrap _) (by kernel_rfl))) hS ?_; clear hF; intro a hF
 refine A_cut (fun a Wx => ∃ (b2 : Nat) (q1 : Option Addr) (qc1 : Nat), Fr 11 a [(2, .slice none 0 0), (5, .slice q1 ((putIp c.ip).length) qc1), (9, .slice (some ⟨b2, 0, none⟩) 1 1)] ∧ Own W noX [.blk b2 (.cells #[.int .u8 (((ub c.port).toNat : Int))] 5 (0, 0)), rowL u8L 1 5 q1 qc1 (putIp c.ip), .blk b1 (.cells #[.bool c.ip.six, .int .u8 ((c.ip.b0.toNat : Int)), .int .u8 ((c.ip.b1.toNat : Int)), .int .u8 ((c.ip.b2.toNat : Int)), .int .u8 ((c.ip.b3.toNat : Int)), .int .u8 ((c.ip.b4.toNat : Int)), .int .u8 ((c.ip.b5.toNat : Int)), .int .u8 ((c.ip.b6.toNat : Int)), .int .u8 ((c.ip.b7.toNat : Int)), .int .u8 ((c.ip.b8.toNat : Int)), .int .u8 ((c.ip.b9.toNat : Int)), .int .u8 ((c.ip.b10.toNat : Int)), .int .u8 ((c.ip.b11.toNat : Int)), .int .u8 ((c.ip.b12.toNat : Int)), .int .u8 ((c.ip.b13.toNat : Int)), .int .u8 ((c.ip.b14.toNat : Int)), .int .u8 ((c.ip.b15.toNat : Int)), .int .i64 (c.port)] 68 (0, 0))] Wx) (fuel := 2) (listed := #[true, true, true, true, true, true, true, false, false]) ?_ ?_
 ·
  clear hF hO; rintro a W4 ⟨b2, q1, qc1, hF, hO⟩
  refine A_one (i := 7) (listed' := #[true, true, true, true, true, true, true, true, false]) (by kernel_rfl) rfl (by kernel_rfl) ?_
  obtain ⟨p1, cap1, W5, hap, hO1, -⟩ := run_append_row (P := Tryz.prog) (ty := 46) (t := 46) (z := .int .u8 0) (k := 1) (bytes := 1) (q := some ⟨b2, 0, none⟩) (ys := ([(ub c.port)] : List UInt8)) (cq := 1) hO (.tail (.head _)) (by kernel_rfl) (by kernel_rfl) (by kernel_rfl) (by decide) (fun _ => rfl) (fun _ => rfl) (SlAt.blk hO List.mem_cons_self (by kernel_rfl)) (by (try simp only [List.length_append, List.length_take, List.length_drop, List.length_cons, List.length_nil, maxLen]); omega) (by (try simp only [List.length_append, List.length_take, List.length_drop, List.length_cons, List.length_nil, maxLen]); omega)
  refine OpK.valW hF (by kernel_rfl) (by kernel_rfl) (x_app hap rfl (by kernel_rfl) (by kernel_rfl) rfl) (by kernel_rfl) ?_
  clear hap hF; intro a hF; replace hO := hO1; clear hO1
  refine ⟨hO.sub (.cons _ (.cons _ (.cons_cons _ (List.nil_sublist _)))), ?_⟩
  have hS := hO.sub (.cons _ (.cons _ (.cons_cons _ (List.nil_sublist _))))
  refine Tk 8 rfl hF (.slice p1 (((putIp c.ip) ++ ([(ub c.port)] : List UInt8)).length) cap1) (fun Wx _ => by kernel_rfl) hS ?_; clear hF; intro a hF
  refine A_done (by kernel_rfl) ?_
  refine hK2 _ _ ?_
  refine wp_ret ?_
  refine ret1 hF (v := .slice p1 (((putIp c.ip) ++ ([(ub c.port)] : List UInt8)).length) cap1) rfl (resT (by kernel_rfl)) (by exact ⟨_, _, rfl, hO.sub (.cons_cons _ (List.nil_sublist _))⟩) .ret (.inl rfl)
 ·
  intro hcut1
  refine A_many [2, 6] (by kernel_rfl) rfl ⟨?_, ?_, trivial⟩
  ·
   refine A_br (listed' := #[true, true, true, true, true, true, false, false, false]) rfl (by kernel_rfl) ?_
   refine OpK.lc hF (addr_Put c.ip W1_d) ?_
   clear hF; rintro _ W6 a ⟨q2, qc2, rfl, hk⟩ hF
   replace hO := hO.call1 hk; clear hk
   refine ⟨hO.sub (.cons _ (.cons_cons _ (List.nil_sublist _))), ?_⟩
   refine A_one (i := 6) (listed' := #[true, true, true, true, true, true, true, false, false]) (by kernel_rfl) rfl (by kernel_rfl) ?_
   refine OpK.new hF hO (by kernel_rfl) (by kernel_rfl) (vf := fun b => .slice (some ⟨b, 0, none⟩) 1 1) (ob := .cells #[.int .u8 (((ub c.port).toNat : Int))] 5) (by kernel_rfl) (by kernel_rfl) ?_
   clear hF hO; intro b3 W7 a hO hF
   refine ⟨hO.sub (.cons _ (.cons _ (.cons_cons _ (List.nil_sublist _)))), ?_⟩
   refine A_one (i := 7) (listed' := #[true, true, true, true, true, true, true, true, false]) (by kernel_rfl) rfl (by kernel_rfl) ?_
   obtain ⟨p2, cap2, W8, hap, hO1, -⟩ := run_append_row (P := Tryz.prog) (ty := 46) (t := 46) (z := .int .u8 0) (k := 1) (bytes := 1) (q := some ⟨b3, 0, none⟩) (ys := ([(ub c.port)] : List UInt8)) (cq := 1) hO (.tail (.head _)) (by kernel_rfl) (by kernel_rfl) (by kernel_rfl) (by decide) (fun _ => rfl) (fun _ => rfl) (SlAt.blk hO List.mem_cons_self (by kernel_rfl)) (by (try simp only [List.length_append, List.length_take, List.length_drop, List.length_cons, List.length_nil, maxLen]); omega) (by (try simp only [List.length_append, List.length_take, List.length_drop, List.length_cons, List.length_nil, maxLen]); omega)
   refine OpK.valW hF (by kernel_rfl) (by kernel_rfl) (x_app hap rfl (by kernel_rfl) (by kernel_rfl) rfl) (by kernel_rfl) ?_
   clear hap hF; intro a hF; replace hO := hO1; clear hO1
   refine ⟨hO.sub (.cons _ (.cons _ (.cons_cons _ (List.nil_sublist _)))), ?_⟩
   have hS := hO.sub (.cons _ (.cons _ (.cons_cons _ (List.nil_sublist _))))
   refine Tk 8 rfl hF (.slice p2 (((putIp c.ip) ++ ([(ub c.port)] : List UInt8)).length) cap2) (fun Wx _ => by kernel_rfl) hS ?_; clear hF; intro a hF
   refine A_done (by kernel_rfl) ?_
   refine hK2 _ _ ?_
   refine wp_ret ?_
   refine ret1 hF (v := .slice p2 (((putIp c.ip) ++ ([(ub c.port)] : List UInt8)).length) cap2) rfl (resT (by kernel_rfl)) (by exact ⟨_, _, rfl, hO.sub (.cons_cons _ (List.nil_sublist _))⟩) .ret (.inl rfl)
  ·
   refine A_br (listed' := #[true, true, false, true, true, true, true, false, false]) rfl (by kernel_rfl) ?_
   refine OpK.new hF hO (by kernel_rfl) (by kernel_rfl) (vf := fun b => .slice (some ⟨b, 0, none⟩) 1 1) (ob := .cells #[.int .u8 (((ub c.port).toNat : Int))] 5) (by kernel_rfl) (by kernel_rfl) ?_
   clear hF hO; intro b4 W9 a hO hF
   refine ⟨hO.sub (.cons _ (.cons_cons _ (List.nil_sublist _))), ?_⟩
   refine A_one (i := 2) (listed' := #[true, true, true, true, true, true, true, false, false]) (by kernel_rfl) rfl (by kernel_rfl) ?_
   refine OpK.lc hF (addr_Put c.ip W9) ?_
   clear hF; rintro _ W10 a ⟨q3, qc3, rfl, hk⟩ hF
   replace hO := hO.call1 hk; clear hk
   refine ⟨hO.sub (.cons _ (.cons _ (.cons_cons _ (List.nil_sublist _)))), ?_⟩
   refine A_one (i := 7) (listed' := #[true, true, true, true, true, true, true, true, false]) (by kernel_rfl) rfl (by kernel_rfl) ?_
   obtain ⟨p3, cap3, W11, hap, hO1, -⟩ := run_append_row (P := Tryz.prog) (ty := 46) (t := 46) (z := .int .u8 0) (k := 1) (bytes := 1) (q := some ⟨b4, 0, none⟩) (ys := ([(ub c.port)] : List UInt8)) (cq := 1) hO (.head _) (by kernel_rfl) (by kernel_rfl) (by kernel_rfl) (by decide) (fun _ => rfl) (fun _ => rfl) (SlAt.blk hO (List.mem_cons_of_mem _ List.mem_cons_self) (by kernel_rfl)) (by (try simp only [List.length_append, List.length_take, List.length_drop, List.length_cons, List.length_nil, maxLen]); omega) (by (try simp only [List.length_append, List.length_take, List.length_drop, List.length_cons, List.length_nil, maxLen]); omega)
   refine OpK.valW hF (by kernel_rfl) (by kernel_rfl) (x_app hap rfl (by kernel_rfl) (by kernel_rfl) rfl) (by kernel_rfl) ?_
   clear hap hF; intro a hF; replace hO := hO1; clear hO1
   refine ⟨hO.sub (.cons _ (.cons _ (.cons_cons _ (List.nil_sublist _)))), ?_⟩
   have hS := hO.sub (.cons _ (.cons _ (.cons_cons _ (List.nil_sublist _))))
   refine Tk 8 rfl hF (.slice p3 (((putIp c.ip) ++ ([(ub c.port)] : List UInt8)).length) cap3) (fun Wx _ => by kernel_rfl) hS ?_; clear hF; intro a hF
   refine A_done (by kernel_rfl) ?_
   refine hK2 _ _ ?_
   refine wp_ret ?_
   refine ret1 hF (v := .slice p3 (((putIp c.ip) ++ ([(ub c.port)] : List UInt8)).length) cap3) rfl (resT (by kernel_rfl)) (by exact ⟨_, _, rfl, hO.sub (.cons_cons _ (List.nil_sublist _))⟩) .ret (.inl rfl)

set_option maxRecDepth 20000 in
theorem rcidr_Put (c : Pt) (W : World) : Ret Tryz.prog 72 #[ptV c] W fun v W' => ∃ q qc, v = .slice q (putCd c).length qc ∧ Own W noX [rowL u8L 1 5 q qc (putCd c)] W' := by
 have hz := putIp_len c.ip
 have hsz := size_le c.ip
 refine enter Tryz.func72 rfl (n := 11) rfl (by kernel_rfl) (E0 := [(0, ptV c)]) (by kernel_rfl) ?_
 intro a hF; have hO := Own.start W noX
 refine wp_seq_k fun K1 hK1 => ?_
 refine wp_region_lit ?_
 refine L_new hF hO (by kernel_rfl) (by kernel_rfl) (vf := fun b => .pointer (some ⟨b, 0, none⟩)) (ob := .cells #[.bool c.ip.six, .int .u8 ((c.ip.b0.toNat : Int)), .int .u8 ((c.ip.b1.toNat : Int)), .int .u8 ((c.ip.b2.toNat : Int)), .int .u8 ((c.ip.b3.toNat : Int)), .int .u8 ((c.ip.b4.toNat : Int)), .int .u8 ((c.ip.b5.toNat : Int)), .int .u8 ((c.ip.b6.toNat : Int)), .int .u8 ((c.ip.b7.toNat : Int)), .int .u8 ((c.ip.b8.toNat : Int)), .int .u8 ((c.ip.b9.toNat : Int)), .int .u8 ((c.ip.b10.toNat : Int)), .int .u8 ((c.ip.b11.toNat : Int)), .int .u8 ((c.ip.b12.toNat : Int)), .int .u8 ((c.ip.b13.toNat : Int)), .int .u8 ((c.ip.b14.toNat : Int)), .int .u8 ((c.ip.b15.toNat : Int)), .int .i64 (c.port)] 68) (by kernel_rfl) (by kernel_rfl) ?_
 clear hF hO; intro b1 W1 a hO hF
 refine Vp hF (.slice none 0 0) ?_; clear hF; intro a hF
 refine L_nil ?_
 refine hK1 _ _ ?_
 refine wp_seq_k fun K2 hK2 => ?_
 refine A_start (fun Wx => Own W noX [.blk b1 (.cells #[.bool c.ip.six, .int .u8 ((c.ip.b0.toNat : Int)), .int .u8 ((c.ip.b1.toNat : Int)), .int .u8 ((c.ip.b2.toNat : Int)), .int .u8 ((c.ip.b3.toNat : Int)), .int .u8 ((c.ip.b4.toNat : Int)), .int .u8 ((c.ip.b5.toNat : Int)), .int .u8 ((c.ip.b6.toNat : Int)), .int .u8 ((c.ip.b7.toNat : Int)), .int .u8 ((c.ip.b8.toNat : Int)), .int .u8 ((c.ip.b9.toNat : Int)), .int .u8 ((c.ip.b10.toNat : Int)), .int .u8 ((c.ip.b11.toNat : Int)), .int .u8 ((c.ip.b12.toNat : Int)), .int .u8 ((c.ip.b13.toNat : Int)), .int .u8 ((c.ip.b14.toNat : Int)), .int .u8 ((c.ip.b15.toNat : Int)), .int .i64 (c.port)] 68 (0, 0))] Wx) (by kernel_rfl) ?_
 replace hO := hO.drewN 1
 generalize hWd : ({ W1 with drawn := W1.drawn + 1 } : World) = W1_d at hO ⊢; clear hWd
 have hS := hO.sub (.cons_cons _ (List.nil_sublist _))
 refine Tk 0 rfl hF (.pointer (some ⟨b1, 0, none⟩)) (fun Wx _ => by kernel_rfl) hS ?_; clear hF; intro a hF
 refine Tk 1 rfl hF (ipV c.ip) (fun Wx hO => x_load (p := .pointer (some ⟨b1, 0, none⟩)) rfl (by kernel_rfl) (run_loadA (k := 17) (by kernel_rfl) (by kernel_rfl) (hO.blk List.mem_cons_self) (by kernel_rfl) (by kernel_rfl))) hS ?_; clear hF; intro a hF
 refine Tk 3 rfl hF (.pointer (some ⟨b1, 17, none⟩)) (fun Wx _ => by kernel_rfl) hS ?_; clear hF; intro a hF
 refine Tk 4 rfl hF (.int .i64 (c.port)) (fun Wx hO => x_load (p := .pointer (some ⟨b1, 17, none⟩)) rfl (by kernel_rfl) (run_load1 (by kernel_rfl) ((hO.cell List.mem_cons_self).trans (by kernel_rfl)))) hS ?_; clear hF; intro a hF
 refine Tk 5 rfl hF (.int .u8 (((ub c.port).toNat : Int))) (fun Wx _ => (x_int (x := IntKind.u8.wrap (c.port)) (ub_wrap _) (by kernel_rfl))) hS ?_; clear hF; intro a hF
 refine A_cut (fun a Wx => ∃ (b2 : Nat) (q1 : Option Addr) (qc1 : Nat), Fr 11 a [(2, .slice none 0 0), (5, .slice q1 ((putIp c.ip).length) qc1), (9, .slice (some ⟨b2, 0, none⟩) 1 1)] ∧ Own W noX [.blk b2 (.cells #[.int .u8 (((ub c.port).toNat : Int))] 5 (0, 0)), rowL u8L 1 5 q1 qc1 (putIp c.ip), .blk b1 (.cells #[.bool c.ip.six, .int .u8 ((c.ip.b0.toNat : Int)), .int .u8 ((c.ip.b1.toNat : Int)), .int .u8 ((c.ip.b2.toNat : Int)), .int .u8 ((c.ip.b3.toNat : Int)), .int .u8 ((c.ip.b4.toNat : Int)), .int .u8 ((c.ip.b5.toNat : Int)), .int .u8 ((c.ip.b6.toNat : Int)), .int .u8 ((c.ip.b7.toNat : Int)), .int .u8 ((c.ip.b8.toNat : Int)), .int .u8 ((c.ip.b9.toNat : Int)), .int .u8 ((c.ip.b10.toNat : Int)), .int .u8 ((c.ip.b11.toNat : Int)), .int .u8 ((c.ip.b12.toNat : Int)), .int .u8 ((c.ip.b13.toNat : Int)), .int .u8 ((c.ip.b14.toNat : Int)), .int .u8 ((c.ip.b15.toNat : Int)), .int .i64 (c.port)] 68 (0, 0))] Wx) (fuel := 2) (listed := #[true, true, true, true, true, true, true, false, false]) ?_ ?_
 ·
  clear hF hO; rintro a W4 ⟨b2, q1, qc1, hF, hO⟩
  refine A_one (i := 7) (listed' := #[true, true, true, true, true, true, true, true, false]) (by kernel_rfl) rfl (by kernel_rfl) ?_
  obtain ⟨p1, cap1, W5, hap, hO1, -⟩ := run_append_row (P := Tryz.prog) (ty := 46) (t := 46) (z := .int .u8 0) (k := 1) (bytes := 1) (q := some ⟨b2, 0, none⟩) (ys := ([(ub c.port)] : List UInt8)) (cq := 1) hO (.tail (.head _)) (by kernel_rfl) (by kernel_rfl) (by kernel_rfl) (by decide) (fun _ => rfl) (fun _ => rfl) (SlAt.blk hO List.mem_cons_self (by kernel_rfl)) (by (try simp only [List.length_append, List.length_take, List.length_drop, List.length_cons, List.length_nil, maxLen]); omega) (by (try simp only [List.length_append, List.length_take, List.length_drop, List.length_cons, List.length_nil, maxLen]); omega)
  refine OpK.valW hF (by kernel_rfl) (by kernel_rfl) (x_app hap rfl (by kernel_rfl) (by kernel_rfl) rfl) (by kernel_rfl) ?_
  clear hap hF; intro a hF; replace hO := hO1; clear hO1
  refine ⟨hO.sub (.cons _ (.cons _ (.cons_cons _ (List.nil_sublist _)))), ?_⟩
  have hS := hO.sub (.cons _ (.cons _ (.cons_cons _ (List.nil_sublist _))))
  refine Tk 8 rfl hF (.slice p1 (((putIp c.ip) ++ ([(ub c.port)] : List UInt8)).length) cap1) (fun Wx _ => by kernel_rfl) hS ?_; clear hF; intro a hF
  refine A_done (by kernel_rfl) ?_
  refine hK2 _ _ ?_
  refine wp_ret ?_
  refine ret1 hF (v := .slice p1 (((putIp c.ip) ++ ([(ub c.port)] : List UInt8)).length) cap1) rfl (resT (by kernel_rfl)) (by exact ⟨_, _, rfl, hO.sub (.cons_cons _ (List.nil_sublist _))⟩) .ret (.inl rfl)
 ·
  intro hcut1
  refine A_many [2, 6] (by kernel_rfl) rfl ⟨?_, ?_, trivial⟩
  ·
   refine A_br (listed' := #[true, true, true, true, true, true, false, false, false]) rfl (by kernel_rfl) ?_
   refine OpK.lc hF (ref02_Put c.ip W1_d) ?_
   clear hF; rintro _ W6 a ⟨q2, qc2, rfl, hk⟩ hF
   replace hO := hO.call1 hk; clear hk
   refine ⟨hO.sub (.cons _ (.cons_cons _ (List.nil_sublist _))), ?_⟩
   refine A_one (i := 6) (listed' := #[true, true, true, true, true, true, true, false, false]) (by kernel_rfl) rfl (by kernel_rfl) ?_
   refine OpK.new hF hO (by kernel_rfl) (by kernel_rfl) (vf := fun b => .slice (some ⟨b, 0, none⟩) 1 1) (ob := .cells #[.int .u8 (((ub c.port).toNat : Int))] 5) (by kernel_rfl) (by kernel_rfl) ?_
   clear hF hO; intro b3 W7 a hO hF
   refine ⟨hO.sub (.cons _ (.cons _ (.cons_cons _ (List.nil_sublist _)))), ?_⟩
   refine A_one (i := 7) (listed' := #[true, true, true, true, true, true, true, true, false]) (by kernel_rfl) rfl (by kernel_rfl) ?_
   obtain ⟨p2, cap2, W8, hap, hO1, -⟩ := run_append_row (P := Tryz.prog) (ty := 46) (t := 46) (z := .int .u8 0) (k := 1) (bytes := 1) (q := some ⟨b3, 0, none⟩) (ys := ([(ub c.port)] : List UInt8)) (cq := 1) hO (.tail (.head _)) (by kernel_rfl) (by kernel_rfl) (by kernel_rfl) (by decide) (fun _ => rfl) (fun _ => rfl) (SlAt.blk hO List.mem_cons_self (by kernel_rfl)) (by (try simp only [List.length_append, List.length_take, List.length_drop, List.length_cons, List.length_nil, maxLen]); omega) (by (try simp only [List.length_append, List.length_take, List.length_drop, List.length_cons, List.length_nil, maxLen]); omega)
   refine OpK.valW hF (by kernel_rfl) (by kernel_rfl) (x_app hap rfl (by kernel_rfl) (by kernel_rfl) rfl) (by kernel_rfl) ?_
   clear hap hF; intro a hF; replace hO := hO1; clear hO1
   refine ⟨hO.sub (.cons _ (.cons _ (.cons_cons _ (List.nil_sublist _)))), ?_⟩
   have hS := hO.sub (.cons _ (.cons _ (.cons_cons _ (List.nil_sublist _))))
   refine Tk 8 rfl hF (.slice p2 (((putIp c.ip) ++ ([(ub c.port)] : List UInt8)).length) cap2) (fun Wx _ => by kernel_rfl) hS ?_; clear hF; intro a hF
   refine A_done (by kernel_rfl) ?_
   refine hK2 _ _ ?_
   refine wp_ret ?_
   refine ret1 hF (v := .slice p2 (((putIp c.ip) ++ ([(ub c.port)] : List UInt8)).length) cap2) rfl (resT (by kernel_rfl)) (by exact ⟨_, _, rfl, hO.sub (.cons_cons _ (List.nil_sublist _))⟩) .ret (.inl rfl)
  ·
   refine A_br (listed' := #[true, true, false, true, true, true, true, false, false]) rfl (by kernel_rfl) ?_
   refine OpK.new hF hO (by kernel_rfl) (by kernel_rfl) (vf := fun b => .slice (some ⟨b, 0, none⟩) 1 1) (ob := .cells #[.int .u8 (((ub c.port).toNat : Int))] 5) (by kernel_rfl) (by kernel_rfl) ?_
   clear hF hO; intro b4 W9 a hO hF
   refine ⟨hO.sub (.cons _ (.cons_cons _ (List.nil_sublist _))), ?_⟩
   refine A_one (i := 2) (listed' := #[true, true, true, true, true, true, true, false, false]) (by kernel_rfl) rfl (by kernel_rfl) ?_
   refine OpK.lc hF (ref02_Put c.ip W9) ?_
   clear hF; rintro _ W10 a ⟨q3, qc3, rfl, hk⟩ hF
   replace hO := hO.call1 hk; clear hk
   refine ⟨hO.sub (.cons _ (.cons _ (.cons_cons _ (List.nil_sublist _)))), ?_⟩
   refine A_one (i := 7) (listed' := #[true, true, true, true, true, true, true, true, false]) (by kernel_rfl) rfl (by kernel_rfl) ?_
   obtain ⟨p3, cap3, W11, hap, hO1, -⟩ := run_append_row (P := Tryz.prog) (ty := 46) (t := 46) (z := .int .u8 0) (k := 1) (bytes := 1) (q := some ⟨b4, 0, none⟩) (ys := ([(ub c.port)] : List UInt8)) (cq := 1) hO (.head _) (by kernel_rfl) (by kernel_rfl) (by kernel_rfl) (by decide) (fun _ => rfl) (fun _ => rfl) (SlAt.blk hO (List.mem_cons_of_mem _ List.mem_cons_self) (by kernel_rfl)) (by (try simp only [List.length_append, List.length_take, List.length_drop, List.length_cons, List.length_nil, maxLen]); omega) (by (try simp only [List.length_append, List.length_take, List.length_drop, List.length_cons, List.length_nil, maxLen]); omega)
   refine OpK.valW hF (by kernel_rfl) (by kernel_rfl) (x_app hap rfl (by kernel_rfl) (by kernel_rfl) rfl) (by kernel_rfl) ?_
   clear hap hF; intro a hF; replace hO := hO1; clear hO1
   refine ⟨hO.sub (.cons _ (.cons _ (.cons_cons _ (List.nil_sublist _)))), ?_⟩
   have hS := hO.sub (.cons _ (.cons _ (.cons_cons _ (List.nil_sublist _))))
   refine Tk 8 rfl hF (.slice p3 (((putIp c.ip) ++ ([(ub c.port)] : List UInt8)).length) cap3) (fun Wx _ => by kernel_rfl) hS ?_; clear hF; intro a hF
   refine A_done (by kernel_rfl) ?_
   refine hK2 _ _ ?_
   refine wp_ret ?_
   refine ret1 hF (v := .slice p3 (((putIp c.ip) ++ ([(ub c.port)] : List UInt8)).length) cap3) rfl (resT (by kernel_rfl)) (by exact ⟨_, _, rfl, hO.sub (.cons_cons _ (List.nil_sublist _))⟩) .ret (.inl rfl)

set_option maxRecDepth 20000 in
theorem cidr_Read (W0 : World) (L : List Chunk) (I : List Nat) (ea : Nat → Addr) (c : Nat) (p : Option Addr) (cap : Nat) (l : List UInt8) (k : Nat) (e : Option Nat) (W : World) (hO : Own W0 noX (.blk c (.cells #[.slice p l.length cap, .int .i64 ((k : Int)), eV ea e] 113 (0, 0)) :: rowL u8L 1 5 p cap l :: L) W) (hk : k ≤ l.length) (hsz : l.length ≤ 1000000) (he : e.isSome = false) (hE : Errs I ea W0) (h1 : I.contains 1 = true) (h6 : I.contains 6 = true) (h3 : I.contains 3 = true) (h0 : I.contains 0 = true) : Ret Tryz.prog 73 #[.pointer (some ⟨c, 0, none⟩)] W fun v W' => v = ptV (readCd l k).1 ∧ Own W0 noX (.blk c (.cells #[.slice p l.length cap, .int .i64 (((readCd l k).2.1 : Int)), eV ea ((readCd l k).2.2)] 113 (0, 0)) :: rowL u8L 1 5 p cap l :: L) W' := by
 have hat := readIp_in (l := l) (k := k) hk
 refine enter Tryz.func73 rfl (n := 20) rfl (by kernel_rfl) (E0 := [(0, .pointer (some ⟨c, 0, none⟩))]) (by kernel_rfl) ?_
 intro a hF; have hO := hO
 refine wp_seq_k fun K1 hK1 => ?_
 refine wp_region_lit ?_
 refine L_new hF hO (by kernel_rfl) (by kernel_rfl) (vf := fun b => .pointer (some ⟨b, 0, none⟩)) (ob := .cells #[.bool false, .int .u8 0, .int .u8 0, .int .u8 0, .int .u8 0, .int .u8 0, .int .u8 0, .int .u8 0, .int .u8 0, .int .u8 0, .int .u8 0, .int .u8 0, .int .u8 0, .int .u8 0, .int .u8 0, .int .u8 0, .int .u8 0, .int .i64 0] 68) (by kernel_rfl) (by kernel_rfl) ?_
 clear hF hO; intro b1 W1 a hO hF
 refine L_nil ?_
 refine hK1 _ _ ?_
 refine wp_seq_k fun K2 hK2 => ?_
 refine wp_region_lit ?_
 refine Vp hF (.pointer (some ⟨c, 0, none⟩)) ?_; clear hF; intro a hF
 replace hO := hO.front (.tail (.tail (.head _)))
 replace hO := hO.front (.tail (.tail (.head _)))
 refine Lc hF (addr_Read_ok W0 _ I ea c p cap l k e W1 hO (by omega) (by omega) (by assumption) hE h1 h6 h3) ?_
 clear hF; rintro _ W2 a ⟨rfl, hk⟩ hF; replace hO := hk; clear hk
 refine Vp hF (.pointer (some ⟨c, 0, none⟩)) ?_; clear hF; intro a hF
 cases q1 : ((readIp l k).2.2.isSome : Bool)
 ·
  by_cases q2 : ((readIp l k).2.1) + 1 ≤ l.length
  ·
   replace hO := hO.front (.tail (.head _))
   replace hO := hO.front (.tail (.head _))
   refine Lc hF (cur_Num1_ok W0 _ I ea c p cap l ((readIp l k).2.1) ((readIp l k).2.2) W2 hO (by omega) (by omega) (by assumption) (by assumption)) ?_
   clear hF; rintro _ W3 a ⟨rfl, hk⟩ hF; replace hO := hk; clear hk
   refine Vp hF (.agg #[.bool (((readIp l k).1).six), .int .u8 ((((readIp l k).1).b0.toNat : Int)), .int .u8 ((((readIp l k).1).b1.toNat : Int)), .int .u8 ((((readIp l k).1).b2.toNat : Int)), .int .u8 ((((readIp l k).1).b3.toNat : Int)), .int .u8 ((((readIp l k).1).b4.toNat : Int)), .int .u8 ((((readIp l k).1).b5.toNat : Int)), .int .u8 ((((readIp l k).1).b6.toNat : Int)), .int .u8 ((((readIp l k).1).b7.toNat : Int)), .int .u8 ((((readIp l k).1).b8.toNat : Int)), .int .u8 ((((readIp l k).1).b9.toNat : Int)), .int .u8 ((((readIp l k).1).b10.toNat : Int)), .int .u8 ((((readIp l k).1).b11.toNat : Int)), .int .u8 ((((readIp l k).1).b12.toNat : Int)), .int .u8 ((((readIp l k).1).b13.toNat : Int)), .int .u8 ((((readIp l k).1).b14.toNat : Int)), .int .u8 ((((readIp l k).1).b15.toNat : Int)), .int .i64 ((numB (seg l ((readIp l k).2.1) 1) : Int))]) ?_; clear hF; intro a hF
   refine L_new hF hO (by kernel_rfl) (by kernel_rfl) (vf := fun b => .pointer (some ⟨b, 0, none⟩)) (ob := .cells #[.bool false, .int .u8 0, .int .u8 0, .int .u8 0, .int .u8 0, .int .u8 0, .int .u8 0, .int .u8 0, .int .u8 0, .int .u8 0, .int .u8 0, .int .u8 0, .int .u8 0, .int .u8 0, .int .u8 0, .int .u8 0, .int .u8 0, .int .i64 0] 68) (by kernel_rfl) (by kernel_rfl) ?_
   clear hF hO; intro b2 W4 a hO hF
   obtain ⟨W5, hst, hO1⟩ := run_storeAt (P := Tryz.prog) (k := 18) (T := 68) (off := 0) (v := .agg #[.bool (((readIp l k).1).six), .int .u8 ((((readIp l k).1).b0.toNat : Int)), .int .u8 ((((readIp l k).1).b1.toNat : Int)), .int .u8 ((((readIp l k).1).b2.toNat : Int)), .int .u8 ((((readIp l k).1).b3.toNat : Int)), .int .u8 ((((readIp l k).1).b4.toNat : Int)), .int .u8 ((((readIp l k).1).b5.toNat : Int)), .int .u8 ((((readIp l k).1).b6.toNat : Int)), .int .u8 ((((readIp l k).1).b7.toNat : Int)), .int .u8 ((((readIp l k).1).b8.toNat : Int)), .int .u8 ((((readIp l k).1).b9.toNat : Int)), .int .u8 ((((readIp l k).1).b10.toNat : Int)), .int .u8 ((((readIp l k).1).b11.toNat : Int)), .int .u8 ((((readIp l k).1).b12.toNat : Int)), .int .u8 ((((readIp l k).1).b13.toNat : Int)), .int .u8 ((((readIp l k).1).b14.toNat : Int)), .int .u8 ((((readIp l k).1).b15.toNat : Int)), .int .i64 ((numB (seg l ((readIp l k).2.1) 1) : Int))]) (cs := #[.bool false, .int .u8 0, .int .u8 0, .int .u8 0, .int .u8 0, .int .u8 0, .int .u8 0, .int .u8 0, .int .u8 0, .int .u8 0, .int .u8 0, .int .u8 0, .int .u8 0, .int .u8 0, .int .u8 0, .int .u8 0, .int .u8 0, .int .i64 0]) (cs' := #[.bool (((readIp l k).1).six), .int .u8 ((((readIp l k).1).b0.toNat : Int)), .int .u8 ((((readIp l k).1).b1.toNat : Int)), .int .u8 ((((readIp l k).1).b2.toNat : Int)), .int .u8 ((((readIp l k).1).b3.toNat : Int)), .int .u8 ((((readIp l k).1).b4.toNat : Int)), .int .u8 ((((readIp l k).1).b5.toNat : Int)), .int .u8 ((((readIp l k).1).b6.toNat : Int)), .int .u8 ((((readIp l k).1).b7.toNat : Int)), .int .u8 ((((readIp l k).1).b8.toNat : Int)), .int .u8 ((((readIp l k).1).b9.toNat : Int)), .int .u8 ((((readIp l k).1).b10.toNat : Int)), .int .u8 ((((readIp l k).1).b11.toNat : Int)), .int .u8 ((((readIp l k).1).b12.toNat : Int)), .int .u8 ((((readIp l k).1).b13.toNat : Int)), .int .u8 ((((readIp l k).1).b14.toNat : Int)), .int .u8 ((((readIp l k).1).b15.toNat : Int)), .int .i64 ((numB (seg l ((readIp l k).2.1) 1) : Int))]) hO (by kernel_rfl) (by kernel_rfl) (by kernel_rfl) (Nat.le_of_ble_eq_true (by kernel_rfl)) (by kernel_rfl) (.head _)
   refine L_skip hF (by kernel_rfl) (by kernel_rfl) (x_store (p := .pointer (some ⟨b2, 0, none⟩)) (v := .agg #[.bool (((readIp l k).1).six), .int .u8 ((((readIp l k).1).b0.toNat : Int)), .int .u8 ((((readIp l k).1).b1.toNat : Int)), .int .u8 ((((readIp l k).1).b2.toNat : Int)), .int .u8 ((((readIp l k).1).b3.toNat : Int)), .int .u8 ((((readIp l k).1).b4.toNat : Int)), .int .u8 ((((readIp l k).1).b5.toNat : Int)), .int .u8 ((((readIp l k).1).b6.toNat : Int)), .int .u8 ((((readIp l k).1).b7.toNat : Int)), .int .u8 ((((readIp l k).1).b8.toNat : Int)), .int .u8 ((((readIp l k).1).b9.toNat : Int)), .int .u8 ((((readIp l k).1).b10.toNat : Int)), .int .u8 ((((readIp l k).1).b11.toNat : Int)), .int .u8 ((((readIp l k).1).b12.toNat : Int)), .int .u8 ((((readIp l k).1).b13.toNat : Int)), .int .u8 ((((readIp l k).1).b14.toNat : Int)), .int .u8 ((((readIp l k).1).b15.toNat : Int)), .int .i64 ((numB (seg l ((readIp l k).2.1) 1) : Int))]) rfl (by kernel_rfl) (by kernel_rfl) hst) (by kernel_rfl) ?_
   clear hst hF; intro a hF; replace hO := hO1; clear hO1
   refine L_nil ?_
   refine hK2 _ _ ?_
   refine wp_seq_k fun K3 hK3 => ?_
   refine wp_seq_k fun K4 hK4 => ?_
   refine wp_region_lit ?_
   refine Vr hF (.agg #[.bool (((readIp l k).1).six), .int .u8 ((((readIp l k).1).b0.toNat : Int)), .int .u8 ((((readIp l k).1).b1.toNat : Int)), .int .u8 ((((readIp l k).1).b2.toNat : Int)), .int .u8 ((((readIp l k).1).b3.toNat : Int)), .int .u8 ((((readIp l k).1).b4.toNat : Int)), .int .u8 ((((readIp l k).1).b5.toNat : Int)), .int .u8 ((((readIp l k).1).b6.toNat : Int)), .int .u8 ((((readIp l k).1).b7.toNat : Int)), .int .u8 ((((readIp l k).1).b8.toNat : Int)), .int .u8 ((((readIp l k).1).b9.toNat : Int)), .int .u8 ((((readIp l k).1).b10.toNat : Int)), .int .u8 ((((readIp l k).1).b11.toNat : Int)), .int .u8 ((((readIp l k).1).b12.toNat : Int)), .int .u8 ((((readIp l k).1).b13.toNat : Int)), .int .u8 ((((readIp l k).1).b14.toNat : Int)), .int .u8 ((((readIp l k).1).b15.toNat : Int)), .int .i64 ((numB (seg l ((readIp l k).2.1) 1) : Int))]) (x_load (p := .pointer (some ⟨b2, 0, none⟩)) rfl (by kernel_rfl) (run_loadA (k := 18) (by kernel_rfl) (by kernel_rfl) (hO.blk List.mem_cons_self) (by kernel_rfl) (by kernel_rfl))) ?_; clear hF; intro a hF
   refine Lc hF (cidr_Right (⟨((readIp l k).1), (numB (seg l ((readIp l k).2.1) 1) : Int)⟩ : Pt) W5) ?_
   clear hF; rintro _ W6 a ⟨rfl, hk⟩ hF
   replace hO := hO.call0 hk; clear hk
   refine Vp hF (.bool (!(rightCd (⟨((readIp l k).1), (numB (seg l ((readIp l k).2.1) 1) : Int)⟩ : Pt)))) ?_; clear hF; intro a hF
   refine L_nil ?_
   refine hK4 _ _ ?_
   cases q3 : (rightCd (⟨((readIp l k).1), (numB (seg l ((readIp l k).2.1) 1) : Int)⟩ : Pt) : Bool)
   ·
    replace hF := hF.know (d := 11) (v' := .bool true) (by kernel_rfl) (congrArg Value.bool (notT q3))
    refine cond_t hF (by kernel_rfl) (by kernel_rfl) ?_
    refine wp_region_lit ?_
    refine Vp hF (.pointer (some ⟨c, 0, none⟩)) ?_; clear hF; intro a hF
    refine Vr hF (errV ea 0) (x_load (p := .pointer (some ⟨1, 0, none⟩)) rfl (by kernel_rfl) (hE.load hO 0 1 h0 (by kernel_rfl))) ?_; clear hF; intro a hF
    replace hO := hO.front (.tail (.head _))
    refine Lc hF (cur_Fail_new W0 _ ea c (.slice p l.length cap) (.int .i64 (((((readIp l k).2.1) + 1 : Nat) : Int))) none 0 W6 hO rfl) ?_
    clear hF; rintro _ W7 a ⟨rfl, hk⟩ hF; replace hO := hk; clear hk
    refine L_nil ?_
    refine hK3 _ _ ?_
    refine wp_seq_k fun K5 hK5 => ?_
    refine wp_seq_k fun K6 hK6 => ?_
    refine wp_region_lit ?_
    refine Vp hF (.pointer (some ⟨c, 0, none⟩)) ?_; clear hF; intro a hF
    replace hO := hO.front (.tail (.tail (.head _)))
    replace hO := hO.front (.tail (.head _))
    refine Lc hF (cur_Err W0 _ I ea c p cap l (((readIp l k).2.1) + 1 : Nat) (some 0) W7 hO (by omega) (by omega)) ?_
    clear hF; rintro _ W8 a ⟨rfl, hk⟩ hF; replace hO := hk; clear hk
    refine Vr hF (.bool true) (x_eVNe (ea := ea) (e := (some 0)) rfl (by kernel_rfl) (by kernel_rfl) (fun _ => by kernel_rfl) (by kernel_rfl)) ?_; clear hF; intro a hF
    refine L_nil ?_
    refine hK6 _ _ ?_
    refine cond_t hF (by kernel_rfl) (by kernel_rfl) ?_
    refine wp_seq_k fun K7 hK7 => ?_
    refine wp_region_lit ?_
    refine Vp hF (.agg #[.bool false, .int .u8 0, .int .u8 0, .int .u8 0, .int .u8 0, .int .u8 0, .int .u8 0, .int .u8 0, .int .u8 0, .int .u8 0, .int .u8 0, .int .u8 0, .int .u8 0, .int .u8 0, .int .u8 0, .int .u8 0, .int .u8 0, .int .i64 0]) ?_; clear hF; intro a hF
    obtain ⟨W9, hst, hO1⟩ := run_storeAt (P := Tryz.prog) (k := 18) (T := 68) (off := 0) (v := .agg #[.bool false, .int .u8 0, .int .u8 0, .int .u8 0, .int .u8 0, .int .u8 0, .int .u8 0, .int .u8 0, .int .u8 0, .int .u8 0, .int .u8 0, .int .u8 0, .int .u8 0, .int .u8 0, .int .u8 0, .int .u8 0, .int .u8 0, .int .i64 0]) (cs := #[.bool false, .int .u8 0, .int .u8 0, .int .u8 0, .int .u8 0, .int .u8 0, .int .u8 0, .int .u8 0, .int .u8 0, .int .u8 0, .int .u8 0, .int .u8 0, .int .u8 0, .int .u8 0, .int .u8 0, .int .u8 0, .int .u8 0, .int .i64 0]) (cs' := #[.bool false, .int .u8 0, .int .u8 0, .int .u8 0, .int .u8 0, .int .u8 0, .int .u8 0, .int .u8 0, .int .u8 0, .int .u8 0, .int .u8 0, .int .u8 0, .int .u8 0, .int .u8 0, .int .u8 0, .int .u8 0, .int .u8 0, .int .i64 0]) hO (by kernel_rfl) (by kernel_rfl) (by kernel_rfl) (Nat.le_of_ble_eq_true (by kernel_rfl)) (by kernel_rfl) (.tail (.tail (.tail (.head _))))
    refine L_skip hF (by kernel_rfl) (by kernel_rfl) (x_store (p := .pointer (some ⟨b1, 0, none⟩)) (v := .agg #[.bool false, .int .u8 0, .int .u8 0, .int .u8 0, .int .u8 0, .int .u8 0, .int .u8 0, .int .u8 0, .int .u8 0, .int .u8 0, .int .u8 0, .int .u8 0, .int .u8 0, .int .u8 0, .int .u8 0, .int .u8 0, .int .u8 0, .int .i64 0]) rfl (by kernel_rfl) (by kernel_rfl) hst) (by kernel_rfl) ?_
    clear hst hF; intro a hF; replace hO := hO1; clear hO1
    refine L_nil ?_
    refine hK7 _ _ ?_
    refine wp_ret ?_
    refine then_ret ?_
    replace hO := hO.front (.tail (.head _))
    replace hO := hO.front (.tail (.head _))
    refine ret1 hF (v := .agg #[.bool false, .int .u8 0, .int .u8 0, .int .u8 0, .int .u8 0, .int .u8 0, .int .u8 0, .int .u8 0, .int .u8 0, .int .u8 0, .int .u8 0, .int .u8 0, .int .u8 0, .int .u8 0, .int .u8 0, .int .u8 0, .int .u8 0, .int .i64 0]) rfl (resC (ad := ⟨b1, 0, none⟩) (by kernel_rfl) (run_loadA (k := 18) (by kernel_rfl) (by kernel_rfl) (hO.blk (List.mem_cons_of_mem _ (List.mem_cons_of_mem _ (List.mem_cons_of_mem _ List.mem_cons_self)))) (by kernel_rfl) (by kernel_rfl))) (by have hr : readCd l k = (noPt, (((readIp l k).2.1) + 1 : Nat), (some 0)) := (by first | exact readCd_e (by assumption) | exact readCd_s (by assumption) (by assumption) | exact readCd_0 (by assumption) (by assumption) (by assumption) | exact readCd_ok (by assumption) (by assumption) (by assumption)); rw [hr]; exact ⟨rfl, hO.sub (.cons_cons _ (.cons_cons _ (.cons _ (.cons _ (List.Sublist.refl _)))))⟩) .ret (.inl rfl)
   ·
    replace hF := hF.know (d := 11) (v' := .bool false) (by kernel_rfl) (congrArg Value.bool (notF q3))
    refine cond_f hF (by kernel_rfl) (by kernel_rfl) ?_
    refine wp_skip ?_
    refine hK3 _ _ ?_
    refine wp_seq_k fun K8 hK8 => ?_
    refine wp_seq_k fun K9 hK9 => ?_
    refine wp_region_lit ?_
    refine Vp hF (.pointer (some ⟨c, 0, none⟩)) ?_; clear hF; intro a hF
    replace hO := hO.front (.tail (.tail (.head _)))
    replace hO := hO.front (.tail (.tail (.head _)))
    refine Lc hF (cur_Err W0 _ I ea c p cap l (((readIp l k).2.1) + 1 : Nat) none W6 hO (by omega) (by omega)) ?_
    clear hF; rintro _ W10 a ⟨rfl, hk⟩ hF; replace hO := hk; clear hk
    refine Vr hF (.bool false) (x_eVNe (ea := ea) (e := none) rfl (by kernel_rfl) (by kernel_rfl) (fun _ => by kernel_rfl) (by kernel_rfl)) ?_; clear hF; intro a hF
    refine L_nil ?_
    refine hK9 _ _ ?_
    refine cond_f hF (by kernel_rfl) (by kernel_rfl) ?_
    refine wp_skip ?_
    refine hK8 _ _ ?_
    refine wp_seq_k fun K10 hK10 => ?_
    refine wp_region_lit ?_
    refine Vr hF (.agg #[.bool (((readIp l k).1).six), .int .u8 ((((readIp l k).1).b0.toNat : Int)), .int .u8 ((((readIp l k).1).b1.toNat : Int)), .int .u8 ((((readIp l k).1).b2.toNat : Int)), .int .u8 ((((readIp l k).1).b3.toNat : Int)), .int .u8 ((((readIp l k).1).b4.toNat : Int)), .int .u8 ((((readIp l k).1).b5.toNat : Int)), .int .u8 ((((readIp l k).1).b6.toNat : Int)), .int .u8 ((((readIp l k).1).b7.toNat : Int)), .int .u8 ((((readIp l k).1).b8.toNat : Int)), .int .u8 ((((readIp l k).1).b9.toNat : Int)), .int .u8 ((((readIp l k).1).b10.toNat : Int)), .int .u8 ((((readIp l k).1).b11.toNat : Int)), .int .u8 ((((readIp l k).1).b12.toNat : Int)), .int .u8 ((((readIp l k).1).b13.toNat : Int)), .int .u8 ((((readIp l k).1).b14.toNat : Int)), .int .u8 ((((readIp l k).1).b15.toNat : Int)), .int .i64 ((numB (seg l ((readIp l k).2.1) 1) : Int))]) (x_load (p := .pointer (some ⟨b2, 0, none⟩)) rfl (by kernel_rfl) (run_loadA (k := 18) (by kernel_rfl) (by kernel_rfl) (hO.blk (List.mem_cons_of_mem _ (List.mem_cons_of_mem _ List.mem_cons_self))) (by kernel_rfl) (by kernel_rfl))) ?_; clear hF; intro a hF
    obtain ⟨W11, hst, hO1⟩ := run_storeAt (P := Tryz.prog) (k := 18) (T := 68) (off := 0) (v := .agg #[.bool (((readIp l k).1).six), .int .u8 ((((readIp l k).1).b0.toNat : Int)), .int .u8 ((((readIp l k).1).b1.toNat : Int)), .int .u8 ((((readIp l k).1).b2.toNat : Int)), .int .u8 ((((readIp l k).1).b3.toNat : Int)), .int .u8 ((((readIp l k).1).b4.toNat : Int)), .int .u8 ((((readIp l k).1).b5.toNat : Int)), .int .u8 ((((readIp l k).1).b6.toNat : Int)), .int .u8 ((((readIp l k).1).b7.toNat : Int)), .int .u8 ((((readIp l k).1).b8.toNat : Int)), .int .u8 ((((readIp l k).1).b9.toNat : Int)), .int .u8 ((((readIp l k).1).b10.toNat : Int)), .int .u8 ((((readIp l k).1).b11.toNat : Int)), .int .u8 ((((readIp l k).1).b12.toNat : Int)), .int .u8 ((((readIp l k).1).b13.toNat : Int)), .int .u8 ((((readIp l k).1).b14.toNat : Int)), .int .u8 ((((readIp l k).1).b15.toNat : Int)), .int .i64 ((numB (seg l ((readIp l k).2.1) 1) : Int))]) (cs := #[.bool false, .int .u8 0, .int .u8 0, .int .u8 0, .int .u8 0, .int .u8 0, .int .u8 0, .int .u8 0, .int .u8 0, .int .u8 0, .int .u8 0, .int .u8 0, .int .u8 0, .int .u8 0, .int .u8 0, .int .u8 0, .int .u8 0, .int .i64 0]) (cs' := #[.bool (((readIp l k).1).six), .int .u8 ((((readIp l k).1).b0.toNat : Int)), .int .u8 ((((readIp l k).1).b1.toNat : Int)), .int .u8 ((((readIp l k).1).b2.toNat : Int)), .int .u8 ((((readIp l k).1).b3.toNat : Int)), .int .u8 ((((readIp l k).1).b4.toNat : Int)), .int .u8 ((((readIp l k).1).b5.toNat : Int)), .int .u8 ((((readIp l k).1).b6.toNat : Int)), .int .u8 ((((readIp l k).1).b7.toNat : Int)), .int .u8 ((((readIp l k).1).b8.toNat : Int)), .int .u8 ((((readIp l k).1).b9.toNat : Int)), .int .u8 ((((readIp l k).1).b10.toNat : Int)), .int .u8 ((((readIp l k).1).b11.toNat : Int)), .int .u8 ((((readIp l k).1).b12.toNat : Int)), .int .u8 ((((readIp l k).1).b13.toNat : Int)), .int .u8 ((((readIp l k).1).b14.toNat : Int)), .int .u8 ((((readIp l k).1).b15.toNat : Int)), .int .i64 ((numB (seg l ((readIp l k).2.1) 1) : Int))]) hO (by kernel_rfl) (by kernel_rfl) (by kernel_rfl) (Nat.le_of_ble_eq_true (by kernel_rfl)) (by kernel_rfl) (.tail (.tail (.tail (.head _))))
    refine L_skip hF (by kernel_rfl) (by kernel_rfl) (x_store (p := .pointer (some ⟨b1, 0, none⟩)) (v := .agg #[.bool (((readIp l k).1).six), .int .u8 ((((readIp l k).1).b0.toNat : Int)), .int .u8 ((((readIp l k).1).b1.toNat : Int)), .int .u8 ((((readIp l k).1).b2.toNat : Int)), .int .u8 ((((readIp l k).1).b3.toNat : Int)), .int .u8 ((((readIp l k).1).b4.toNat : Int)), .int .u8 ((((readIp l k).1).b5.toNat : Int)), .int .u8 ((((readIp l k).1).b6.toNat : Int)), .int .u8 ((((readIp l k).1).b7.toNat : Int)), .int .u8 ((((readIp l k).1).b8.toNat : Int)), .int .u8 ((((readIp l k).1).b9.toNat : Int)), .int .u8 ((((readIp l k).1).b10.toNat : Int)), .int .u8 ((((readIp l k).1).b11.toNat : Int)), .int .u8 ((((readIp l k).1).b12.toNat : Int)), .int .u8 ((((readIp l k).1).b13.toNat : Int)), .int .u8 ((((readIp l k).1).b14.toNat : Int)), .int .u8 ((((readIp l k).1).b15.toNat : Int)), .int .i64 ((numB (seg l ((readIp l k).2.1) 1) : Int))]) rfl (by kernel_rfl) (by kernel_rfl) hst) (by kernel_rfl) ?_
    clear hst hF; intro a hF; replace hO := hO1; clear hO1
    refine L_nil ?_
    refine hK10 _ _ ?_
    refine wp_ret ?_
    replace hO := hO.front (.tail (.head _))
    replace hO := hO.front (.tail (.head _))
    refine ret1 hF (v := .agg #[.bool (((readIp l k).1).six), .int .u8 ((((readIp l k).1).b0.toNat : Int)), .int .u8 ((((readIp l k).1).b1.toNat : Int)), .int .u8 ((((readIp l k).1).b2.toNat : Int)), .int .u8 ((((readIp l k).1).b3.toNat : Int)), .int .u8 ((((readIp l k).1).b4.toNat : Int)), .int .u8 ((((readIp l k).1).b5.toNat : Int)), .int .u8 ((((readIp l k).1).b6.toNat : Int)), .int .u8 ((((readIp l k).1).b7.toNat : Int)), .int .u8 ((((readIp l k).1).b8.toNat : Int)), .int .u8 ((((readIp l k).1).b9.toNat : Int)), .int .u8 ((((readIp l k).1).b10.toNat : Int)), .int .u8 ((((readIp l k).1).b11.toNat : Int)), .int .u8 ((((readIp l k).1).b12.toNat : Int)), .int .u8 ((((readIp l k).1).b13.toNat : Int)), .int .u8 ((((readIp l k).1).b14.toNat : Int)), .int .u8 ((((readIp l k).1).b15.toNat : Int)), .int .i64 ((numB (seg l ((readIp l k).2.1) 1) : Int))]) rfl (resC (ad := ⟨b1, 0, none⟩) (by kernel_rfl) (run_loadA (k := 18) (by kernel_rfl) (by kernel_rfl) (hO.blk (List.mem_cons_of_mem _ (List.mem_cons_of_mem _ (List.mem_cons_of_mem _ List.mem_cons_self)))) (by kernel_rfl) (by kernel_rfl))) (by have hr : readCd l k = ((⟨((readIp l k).1), (numB (seg l ((readIp l k).2.1) 1) : Int)⟩ : Pt), (((readIp l k).2.1) + 1 : Nat), none) := (by first | exact readCd_e (by assumption) | exact readCd_s (by assumption) (by assumption) | exact readCd_0 (by assumption) (by assumption) (by assumption) | exact readCd_ok (by assumption) (by assumption) (by assumption)); rw [hr]; exact ⟨rfl, hO.sub (.cons_cons _ (.cons_cons _ (.cons _ (.cons _ (List.Sublist.refl _)))))⟩) .ret (.inl rfl)
  ·
   replace hO := hO.front (.tail (.head _))
   replace hO := hO.front (.tail (.head _))
   refine Lc hF (cur_Num1_short W0 _ I ea c p cap l ((readIp l k).2.1) ((readIp l k).2.2) W2 hO (by omega) (by omega) (by assumption) (by assumption) hE h1) ?_
   clear hF; rintro _ W12 a ⟨rfl, hk⟩ hF; replace hO := hk; clear hk
   refine Vp hF (.agg #[.bool (((readIp l k).1).six), .int .u8 ((((readIp l k).1).b0.toNat : Int)), .int .u8 ((((readIp l k).1).b1.toNat : Int)), .int .u8 ((((readIp l k).1).b2.toNat : Int)), .int .u8 ((((readIp l k).1).b3.toNat : Int)), .int .u8 ((((readIp l k).1).b4.toNat : Int)), .int .u8 ((((readIp l k).1).b5.toNat : Int)), .int .u8 ((((readIp l k).1).b6.toNat : Int)), .int .u8 ((((readIp l k).1).b7.toNat : Int)), .int .u8 ((((readIp l k).1).b8.toNat : Int)), .int .u8 ((((readIp l k).1).b9.toNat : Int)), .int .u8 ((((readIp l k).1).b10.toNat : Int)), .int .u8 ((((readIp l k).1).b11.toNat : Int)), .int .u8 ((((readIp l k).1).b12.toNat : Int)), .int .u8 ((((readIp l k).1).b13.toNat : Int)), .int .u8 ((((readIp l k).1).b14.toNat : Int)), .int .u8 ((((readIp l k).1).b15.toNat : Int)), .int .i64 0]) ?_; clear hF; intro a hF
   refine L_new hF hO (by kernel_rfl) (by kernel_rfl) (vf := fun b => .pointer (some ⟨b, 0, none⟩)) (ob := .cells #[.bool false, .int .u8 0, .int .u8 0, .int .u8 0, .int .u8 0, .int .u8 0, .int .u8 0, .int .u8 0, .int .u8 0, .int .u8 0, .int .u8 0, .int .u8 0, .int .u8 0, .int .u8 0, .int .u8 0, .int .u8 0, .int .u8 0, .int .i64 0] 68) (by kernel_rfl) (by kernel_rfl) ?_
   clear hF hO; intro b3 W13 a hO hF
   obtain ⟨W14, hst, hO1⟩ := run_storeAt (P := Tryz.prog) (k := 18) (T := 68) (off := 0) (v := .agg #[.bool (((readIp l k).1).six), .int .u8 ((((readIp l k).1).b0.toNat : Int)), .int .u8 ((((readIp l k).1).b1.toNat : Int)), .int .u8 ((((readIp l k).1).b2.toNat : Int)), .int .u8 ((((readIp l k).1).b3.toNat : Int)), .int .u8 ((((readIp l k).1).b4.toNat : Int)), .int .u8 ((((readIp l k).1).b5.toNat : Int)), .int .u8 ((((readIp l k).1).b6.toNat : Int)), .int .u8 ((((readIp l k).1).b7.toNat : Int)), .int .u8 ((((readIp l k).1).b8.toNat : Int)), .int .u8 ((((readIp l k).1).b9.toNat : Int)), .int .u8 ((((readIp l k).1).b10.toNat : Int)), .int .u8 ((((readIp l k).1).b11.toNat : Int)), .int .u8 ((((readIp l k).1).b12.toNat : Int)), .int .u8 ((((readIp l k).1).b13.toNat : Int)), .int .u8 ((((readIp l k).1).b14.toNat : Int)), .int .u8 ((((readIp l k).1).b15.toNat : Int)), .int .i64 0]) (cs := #[.bool false, .int .u8 0, .int .u8 0, .int .u8 0, .int .u8 0, .int .u8 0, .int .u8 0, .int .u8 0, .int .u8 0, .int .u8 0, .int .u8 0, .int .u8 0, .int .u8 0, .int .u8 0, .int .u8 0, .int .u8 0, .int .u8 0, .int .i64 0]) (cs' := #[.bool (((readIp l k).1).six), .int .u8 ((((readIp l k).1).b0.toNat : Int)), .int .u8 ((((readIp l k).1).b1.toNat : Int)), .int .u8 ((((readIp l k).1).b2.toNat : Int)), .int .u8 ((((readIp l k).1).b3.toNat : Int)), .int .u8 ((((readIp l k).1).b4.toNat : Int)), .int .u8 ((((readIp l k).1).b5.toNat : Int)), .int .u8 ((((readIp l k).1).b6.toNat : Int)), .int .u8 ((((readIp l k).1).b7.toNat : Int)), .int .u8 ((((readIp l k).1).b8.toNat : Int)), .int .u8 ((((readIp l k).1).b9.toNat : Int)), .int .u8 ((((readIp l k).1).b10.toNat : Int)), .int .u8 ((((readIp l k).1).b11.toNat : Int)), .int .u8 ((((readIp l k).1).b12.toNat : Int)), .int .u8 ((((readIp l k).1).b13.toNat : Int)), .int .u8 ((((readIp l k).1).b14.toNat : Int)), .int .u8 ((((readIp l k).1).b15.toNat : Int)), .int .i64 0]) hO (by kernel_rfl) (by kernel_rfl) (by kernel_rfl) (Nat.le_of_ble_eq_true (by kernel_rfl)) (by kernel_rfl) (.head _)
   refine L_skip hF (by kernel_rfl) (by kernel_rfl) (x_store (p := .pointer (some ⟨b3, 0, none⟩)) (v := .agg #[.bool (((readIp l k).1).six), .int .u8 ((((readIp l k).1).b0.toNat : Int)), .int .u8 ((((readIp l k).1).b1.toNat : Int)), .int .u8 ((((readIp l k).1).b2.toNat : Int)), .int .u8 ((((readIp l k).1).b3.toNat : Int)), .int .u8 ((((readIp l k).1).b4.toNat : Int)), .int .u8 ((((readIp l k).1).b5.toNat : Int)), .int .u8 ((((readIp l k).1).b6.toNat : Int)), .int .u8 ((((readIp l k).1).b7.toNat : Int)), .int .u8 ((((readIp l k).1).b8.toNat : Int)), .int .u8 ((((readIp l k).1).b9.toNat : Int)), .int .u8 ((((readIp l k).1).b10.toNat : Int)), .int .u8 ((((readIp l k).1).b11.toNat : Int)), .int .u8 ((((readIp l k).1).b12.toNat : Int)), .int .u8 ((((readIp l k).1).b13.toNat : Int)), .int .u8 ((((readIp l k).1).b14.toNat : Int)), .int .u8 ((((readIp l k).1).b15.toNat : Int)), .int .i64 0]) rfl (by kernel_rfl) (by kernel_rfl) hst) (by kernel_rfl) ?_
   clear hst hF; intro a hF; replace hO := hO1; clear hO1
   refine L_nil ?_
   refine hK2 _ _ ?_
   refine wp_seq_k fun K11 hK11 => ?_
   refine wp_seq_k fun K12 hK12 => ?_
   refine wp_region_lit ?_
   refine Vr hF (.agg #[.bool (((readIp l k).1).six), .int .u8 ((((readIp l k).1).b0.toNat : Int)), .int .u8 ((((readIp l k).1).b1.toNat : Int)), .int .u8 ((((readIp l k).1).b2.toNat : Int)), .int .u8 ((((readIp l k).1).b3.toNat : Int)), .int .u8 ((((readIp l k).1).b4.toNat : Int)), .int .u8 ((((readIp l k).1).b5.toNat : Int)), .int .u8 ((((readIp l k).1).b6.toNat : Int)), .int .u8 ((((readIp l k).1).b7.toNat : Int)), .int .u8 ((((readIp l k).1).b8.toNat : Int)), .int .u8 ((((readIp l k).1).b9.toNat : Int)), .int .u8 ((((readIp l k).1).b10.toNat : Int)), .int .u8 ((((readIp l k).1).b11.toNat : Int)), .int .u8 ((((readIp l k).1).b12.toNat : Int)), .int .u8 ((((readIp l k).1).b13.toNat : Int)), .int .u8 ((((readIp l k).1).b14.toNat : Int)), .int .u8 ((((readIp l k).1).b15.toNat : Int)), .int .i64 0]) (x_load (p := .pointer (some ⟨b3, 0, none⟩)) rfl (by kernel_rfl) (run_loadA (k := 18) (by kernel_rfl) (by kernel_rfl) (hO.blk List.mem_cons_self) (by kernel_rfl) (by kernel_rfl))) ?_; clear hF; intro a hF
   refine Lc hF (cidr_Right (⟨((readIp l k).1), 0⟩ : Pt) W14) ?_
   clear hF; rintro _ W15 a ⟨rfl, hk⟩ hF
   replace hO := hO.call0 hk; clear hk
   refine Vp hF (.bool (!(rightCd (⟨((readIp l k).1), 0⟩ : Pt)))) ?_; clear hF; intro a hF
   refine L_nil ?_
   refine hK12 _ _ ?_
   cases q4 : (rightCd (⟨((readIp l k).1), 0⟩ : Pt) : Bool)
   ·
    replace hF := hF.know (d := 11) (v' := .bool true) (by kernel_rfl) (congrArg Value.bool (notT q4))
    refine cond_t hF (by kernel_rfl) (by kernel_rfl) ?_
    refine wp_region_lit ?_
    refine Vp hF (.pointer (some ⟨c, 0, none⟩)) ?_; clear hF; intro a hF
    refine Vr hF (errV ea 0) (x_load (p := .pointer (some ⟨1, 0, none⟩)) rfl (by kernel_rfl) (hE.load hO 0 1 h0 (by kernel_rfl))) ?_; clear hF; intro a hF
    replace hO := hO.front (.tail (.head _))
    refine Lc hF (cur_Fail_bad W0 _ ea c (.slice p l.length cap) (.int .i64 (((readIp l k).2.1 : Int))) (some 1) 0 W15 hO rfl) ?_
    clear hF; rintro _ W16 a ⟨rfl, hk⟩ hF; replace hO := hk; clear hk
    refine L_nil ?_
    refine hK11 _ _ ?_
    refine wp_seq_k fun K13 hK13 => ?_
    refine wp_seq_k fun K14 hK14 => ?_
    refine wp_region_lit ?_
    refine Vp hF (.pointer (some ⟨c, 0, none⟩)) ?_; clear hF; intro a hF
    replace hO := hO.front (.tail (.tail (.head _)))
    replace hO := hO.front (.tail (.head _))
    refine Lc hF (cur_Err W0 _ I ea c p cap l ((readIp l k).2.1) (some 1) W16 hO (by omega) (by omega)) ?_
    clear hF; rintro _ W17 a ⟨rfl, hk⟩ hF; replace hO := hk; clear hk
    refine Vr hF (.bool true) (x_eVNe (ea := ea) (e := (some 1)) rfl (by kernel_rfl) (by kernel_rfl) (fun _ => by kernel_rfl) (by kernel_rfl)) ?_; clear hF; intro a hF
    refine L_nil ?_
    refine hK14 _ _ ?_
    refine cond_t hF (by kernel_rfl) (by kernel_rfl) ?_
    refine wp_seq_k fun K15 hK15 => ?_
    refine wp_region_lit ?_
    refine Vp hF (.agg #[.bool false, .int .u8 0, .int .u8 0, .int .u8 0, .int .u8 0, .int .u8 0, .int .u8 0, .int .u8 0, .int .u8 0, .int .u8 0, .int .u8 0, .int .u8 0, .int .u8 0, .int .u8 0, .int .u8 0, .int .u8 0, .int .u8 0, .int .i64 0]) ?_; clear hF; intro a hF
    obtain ⟨W18, hst, hO1⟩ := run_storeAt (P := Tryz.prog) (k := 18) (T := 68) (off := 0) (v := .agg #[.bool false, .int .u8 0, .int .u8 0, .int .u8 0, .int .u8 0, .int .u8 0, .int .u8 0, .int .u8 0, .int .u8 0, .int .u8 0, .int .u8 0, .int .u8 0, .int .u8 0, .int .u8 0, .int .u8 0, .int .u8 0, .int .u8 0, .int .i64 0]) (cs := #[.bool false, .int .u8 0, .int .u8 0, .int .u8 0, .int .u8 0, .int .u8 0, .int .u8 0, .int .u8 0, .int .u8 0, .int .u8 0, .int .u8 0, .int .u8 0, .int .u8 0, .int .u8 0, .int .u8 0, .int .u8 0, .int .u8 0, .int .i64 0]) (cs' := #[.bool false, .int .u8 0, .int .u8 0, .int .u8 0, .int .u8 0, .int .u8 0, .int .u8 0, .int .u8 0, .int .u8 0, .int .u8 0, .int .u8 0, .int .u8 0, .int .u8 0, .int .u8 0, .int .u8 0, .int .u8 0, .int .u8 0, .int .i64 0]) hO (by kernel_rfl) (by kernel_rfl) (by kernel_rfl) (Nat.le_of_ble_eq_true (by kernel_rfl)) (by kernel_rfl) (.tail (.tail (.tail (.head _))))
    refine L_skip hF (by kernel_rfl) (by kernel_rfl) (x_store (p := .pointer (some ⟨b1, 0, none⟩)) (v := .agg #[.bool false, .int .u8 0, .int .u8 0, .int .u8 0, .int .u8 0, .int .u8 0, .int .u8 0, .int .u8 0, .int .u8 0, .int .u8 0, .int .u8 0, .int .u8 0, .int .u8 0, .int .u8 0, .int .u8 0, .int .u8 0, .int .u8 0, .int .i64 0]) rfl (by kernel_rfl) (by kernel_rfl) hst) (by kernel_rfl) ?_
    clear hst hF; intro a hF; replace hO := hO1; clear hO1
    refine L_nil ?_
    refine hK15 _ _ ?_
    refine wp_ret ?_
    refine then_ret ?_
    replace hO := hO.front (.tail (.head _))
    replace hO := hO.front (.tail (.head _))
    refine ret1 hF (v := .agg #[.bool false, .int .u8 0, .int .u8 0, .int .u8 0, .int .u8 0, .int .u8 0, .int .u8 0, .int .u8 0, .int .u8 0, .int .u8 0, .int .u8 0, .int .u8 0, .int .u8 0, .int .u8 0, .int .u8 0, .int .u8 0, .int .u8 0, .int .i64 0]) rfl (resC (ad := ⟨b1, 0, none⟩) (by kernel_rfl) (run_loadA (k := 18) (by kernel_rfl) (by kernel_rfl) (hO.blk (List.mem_cons_of_mem _ (List.mem_cons_of_mem _ (List.mem_cons_of_mem _ List.mem_cons_self)))) (by kernel_rfl) (by kernel_rfl))) (by have hr : readCd l k = (noPt, ((readIp l k).2.1), (some 1)) := (by first | exact readCd_e (by assumption) | exact readCd_s (by assumption) (by assumption) | exact readCd_0 (by assumption) (by assumption) (by assumption) | exact readCd_ok (by assumption) (by assumption) (by assumption)); rw [hr]; exact ⟨rfl, hO.sub (.cons_cons _ (.cons_cons _ (.cons _ (.cons _ (List.Sublist.refl _)))))⟩) .ret (.inl rfl)
   ·
    replace hF := hF.know (d := 11) (v' := .bool false) (by kernel_rfl) (congrArg Value.bool (notF q4))
    refine cond_f hF (by kernel_rfl) (by kernel_rfl) ?_
    refine wp_skip ?_
    refine hK11 _ _ ?_
    refine wp_seq_k fun K16 hK16 => ?_
    refine wp_seq_k fun K17 hK17 => ?_
    refine wp_region_lit ?_
    refine Vp hF (.pointer (some ⟨c, 0, none⟩)) ?_; clear hF; intro a hF
    replace hO := hO.front (.tail (.tail (.head _)))
    replace hO := hO.front (.tail (.tail (.head _)))
    refine Lc hF (cur_Err W0 _ I ea c p cap l ((readIp l k).2.1) (some 1) W15 hO (by omega) (by omega)) ?_
    clear hF; rintro _ W19 a ⟨rfl, hk⟩ hF; replace hO := hk; clear hk
    refine Vr hF (.bool true) (x_eVNe (ea := ea) (e := (some 1)) rfl (by kernel_rfl) (by kernel_rfl) (fun _ => by kernel_rfl) (by kernel_rfl)) ?_; clear hF; intro a hF
    refine L_nil ?_
    refine hK17 _ _ ?_
    refine cond_t hF (by kernel_rfl) (by kernel_rfl) ?_
    refine wp_seq_k fun K18 hK18 => ?_
    refine wp_region_lit ?_
    refine Vp hF (.agg #[.bool false, .int .u8 0, .int .u8 0, .int .u8 0, .int .u8 0, .int .u8 0, .int .u8 0, .int .u8 0, .int .u8 0, .int .u8 0, .int .u8 0, .int .u8 0, .int .u8 0, .int .u8 0, .int .u8 0, .int .u8 0, .int .u8 0, .int .i64 0]) ?_; clear hF; intro a hF
    obtain ⟨W20, hst, hO1⟩ := run_storeAt (P := Tryz.prog) (k := 18) (T := 68) (off := 0) (v := .agg #[.bool false, .int .u8 0, .int .u8 0, .int .u8 0, .int .u8 0, .int .u8 0, .int .u8 0, .int .u8 0, .int .u8 0, .int .u8 0, .int .u8 0, .int .u8 0, .int .u8 0, .int .u8 0, .int .u8 0, .int .u8 0, .int .u8 0, .int .i64 0]) (cs := #[.bool false, .int .u8 0, .int .u8 0, .int .u8 0, .int .u8 0, .int .u8 0, .int .u8 0, .int .u8 0, .int .u8 0, .int .u8 0, .int .u8 0, .int .u8 0, .int .u8 0, .int .u8 0, .int .u8 0, .int .u8 0, .int .u8 0, .int .i64 0]) (cs' := #[.bool false, .int .u8 0, .int .u8 0, .int .u8 0, .int .u8 0, .int .u8 0, .int .u8 0, .int .u8 0, .int .u8 0, .int .u8 0, .int .u8 0, .int .u8 0, .int .u8 0, .int .u8 0, .int .u8 0, .int .u8 0, .int .u8 0, .int .i64 0]) hO (by kernel_rfl) (by kernel_rfl) (by kernel_rfl) (Nat.le_of_ble_eq_true (by kernel_rfl)) (by kernel_rfl) (.tail (.tail (.tail (.head _))))
    refine L_skip hF (by kernel_rfl) (by kernel_rfl) (x_store (p := .pointer (some ⟨b1, 0, none⟩)) (v := .agg #[.bool false, .int .u8 0, .int .u8 0, .int .u8 0, .int .u8 0, .int .u8 0, .int .u8 0, .int .u8 0, .int .u8 0, .int .u8 0, .int .u8 0, .int .u8 0, .int .u8 0, .int .u8 0, .int .u8 0, .int .u8 0, .int .u8 0, .int .i64 0]) rfl (by kernel_rfl) (by kernel_rfl) hst) (by kernel_rfl) ?_
    clear hst hF; intro a hF; replace hO := hO1; clear hO1
    refine L_nil ?_
    refine hK18 _ _ ?_
    refine wp_ret ?_
    refine then_ret ?_
    replace hO := hO.front (.tail (.head _))
    replace hO := hO.front (.tail (.head _))
    refine ret1 hF (v := .agg #[.bool false, .int .u8 0, .int .u8 0, .int .u8 0, .int .u8 0, .int .u8 0, .int .u8 0, .int .u8 0, .int .u8 0, .int .u8 0, .int .u8 0, .int .u8 0, .int .u8 0, .int .u8 0, .int .u8 0, .int .u8 0, .int .u8 0, .int .i64 0]) rfl (resC (ad := ⟨b1, 0, none⟩) (by kernel_rfl) (run_loadA (k := 18) (by kernel_rfl) (by kernel_rfl) (hO.blk (List.mem_cons_of_mem _ (List.mem_cons_of_mem _ (List.mem_cons_of_mem _ List.mem_cons_self)))) (by kernel_rfl) (by kernel_rfl))) (by have hr : readCd l k = (noPt, ((readIp l k).2.1), (some 1)) := (by first | exact readCd_e (by assumption) | exact readCd_s (by assumption) (by assumption) | exact readCd_0 (by assumption) (by assumption) (by assumption) | exact readCd_ok (by assumption) (by assumption) (by assumption)); rw [hr]; exact ⟨rfl, hO.sub (.cons_cons _ (.cons_cons _ (.cons _ (.cons _ (List.Sublist.refl _)))))⟩) .ret (.inl rfl)
 ·
  replace hO := hO.front (.tail (.head _))
  replace hO := hO.front (.tail (.head _))
  refine Lc hF (cur_Num1_err W0 _ I ea c p cap l ((readIp l k).2.1) ((readIp l k).2.2) W2 hO (by omega) (by omega) (by assumption)) ?_
  clear hF; rintro _ W21 a ⟨rfl, hk⟩ hF; replace hO := hk; clear hk
  refine Vp hF (.agg #[.bool (((readIp l k).1).six), .int .u8 ((((readIp l k).1).b0.toNat : Int)), .int .u8 ((((readIp l k).1).b1.toNat : Int)), .int .u8 ((((readIp l k).1).b2.toNat : Int)), .int .u8 ((((readIp l k).1).b3.toNat : Int)), .int .u8 ((((readIp l k).1).b4.toNat : Int)), .int .u8 ((((readIp l k).1).b5.toNat : Int)), .int .u8 ((((readIp l k).1).b6.toNat : Int)), .int .u8 ((((readIp l k).1).b7.toNat : Int)), .int .u8 ((((readIp l k).1).b8.toNat : Int)), .int .u8 ((((readIp l k).1).b9.toNat : Int)), .int .u8 ((((readIp l k).1).b10.toNat : Int)), .int .u8 ((((readIp l k).1).b11.toNat : Int)), .int .u8 ((((readIp l k).1).b12.toNat : Int)), .int .u8 ((((readIp l k).1).b13.toNat : Int)), .int .u8 ((((readIp l k).1).b14.toNat : Int)), .int .u8 ((((readIp l k).1).b15.toNat : Int)), .int .i64 0]) ?_; clear hF; intro a hF
  refine L_new hF hO (by kernel_rfl) (by kernel_rfl) (vf := fun b => .pointer (some ⟨b, 0, none⟩)) (ob := .cells #[.bool false, .int .u8 0, .int .u8 0, .int .u8 0, .int .u8 0, .int .u8 0, .int .u8 0, .int .u8 0, .int .u8 0, .int .u8 0, .int .u8 0, .int .u8 0, .int .u8 0, .int .u8 0, .int .u8 0, .int .u8 0, .int .u8 0, .int .i64 0] 68) (by kernel_rfl) (by kernel_rfl) ?_
  clear hF hO; intro b4 W22 a hO hF
  obtain ⟨W23, hst, hO1⟩ := run_storeAt (P := Tryz.prog) (k := 18) (T := 68) (off := 0) (v := .agg #[.bool (((readIp l k).1).six), .int .u8 ((((readIp l k).1).b0.toNat : Int)), .int .u8 ((((readIp l k).1).b1.toNat : Int)), .int .u8 ((((readIp l k).1).b2.toNat : Int)), .int .u8 ((((readIp l k).1).b3.toNat : Int)), .int .u8 ((((readIp l k).1).b4.toNat : Int)), .int .u8 ((((readIp l k).1).b5.toNat : Int)), .int .u8 ((((readIp l k).1).b6.toNat : Int)), .int .u8 ((((readIp l k).1).b7.toNat : Int)), .int .u8 ((((readIp l k).1).b8.toNat : Int)), .int .u8 ((((readIp l k).1).b9.toNat : Int)), .int .u8 ((((readIp l k).1).b10.toNat : Int)), .int .u8 ((((readIp l k).1).b11.toNat : Int)), .int .u8 ((((readIp l k).1).b12.toNat : Int)), .int .u8 ((((readIp l k).1).b13.toNat : Int)), .int .u8 ((((readIp l k).1).b14.toNat : Int)), .int .u8 ((((readIp l k).1).b15.toNat : Int)), .int .i64 0]) (cs := #[.bool false, .int .u8 0, .int .u8 0, .int .u8 0, .int .u8 0, .int .u8 0, .int .u8 0, .int .u8 0, .int .u8 0, .int .u8 0, .int .u8 0, .int .u8 0, .int .u8 0, .int .u8 0, .int .u8 0, .int .u8 0, .int .u8 0, .int .i64 0]) (cs' := #[.bool (((readIp l k).1).six), .int .u8 ((((readIp l k).1).b0.toNat : Int)), .int .u8 ((((readIp l k).1).b1.toNat : Int)), .int .u8 ((((readIp l k).1).b2.toNat : Int)), .int .u8 ((((readIp l k).1).b3.toNat : Int)), .int .u8 ((((readIp l k).1).b4.toNat : Int)), .int .u8 ((((readIp l k).1).b5.toNat : Int)), .int .u8 ((((readIp l k).1).b6.toNat : Int)), .int .u8 ((((readIp l k).1).b7.toNat : Int)), .int .u8 ((((readIp l k).1).b8.toNat : Int)), .int .u8 ((((readIp l k).1).b9.toNat : Int)), .int .u8 ((((readIp l k).1).b10.toNat : Int)), .int .u8 ((((readIp l k).1).b11.toNat : Int)), .int .u8 ((((readIp l k).1).b12.toNat : Int)), .int .u8 ((((readIp l k).1).b13.toNat : Int)), .int .u8 ((((readIp l k).1).b14.toNat : Int)), .int .u8 ((((readIp l k).1).b15.toNat : Int)), .int .i64 0]) hO (by kernel_rfl) (by kernel_rfl) (by kernel_rfl) (Nat.le_of_ble_eq_true (by kernel_rfl)) (by kernel_rfl) (.head _)
  refine L_skip hF (by kernel_rfl) (by kernel_rfl) (x_store (p := .pointer (some ⟨b4, 0, none⟩)) (v := .agg #[.bool (((readIp l k).1).six), .int .u8 ((((readIp l k).1).b0.toNat : Int)), .int .u8 ((((readIp l k).1).b1.toNat : Int)), .int .u8 ((((readIp l k).1).b2.toNat : Int)), .int .u8 ((((readIp l k).1).b3.toNat : Int)), .int .u8 ((((readIp l k).1).b4.toNat : Int)), .int .u8 ((((readIp l k).1).b5.toNat : Int)), .int .u8 ((((readIp l k).1).b6.toNat : Int)), .int .u8 ((((readIp l k).1).b7.toNat : Int)), .int .u8 ((((readIp l k).1).b8.toNat : Int)), .int .u8 ((((readIp l k).1).b9.toNat : Int)), .int .u8 ((((readIp l k).1).b10.toNat : Int)), .int .u8 ((((readIp l k).1).b11.toNat : Int)), .int .u8 ((((readIp l k).1).b12.toNat : Int)), .int .u8 ((((readIp l k).1).b13.toNat : Int)), .int .u8 ((((readIp l k).1).b14.toNat : Int)), .int .u8 ((((readIp l k).1).b15.toNat : Int)), .int .i64 0]) rfl (by kernel_rfl) (by kernel_rfl) hst) (by kernel_rfl) ?_
  clear hst hF; intro a hF; replace hO := hO1; clear hO1
  refine L_nil ?_
  refine hK2 _ _ ?_
  refine wp_seq_k fun K19 hK19 => ?_
  refine wp_seq_k fun K20 hK20 => ?_
  refine wp_region_lit ?_
  refine Vr hF (.agg #[.bool (((readIp l k).1).six), .int .u8 ((((readIp l k).1).b0.toNat : Int)), .int .u8 ((((readIp l k).1).b1.toNat : Int)), .int .u8 ((((readIp l k).1).b2.toNat : Int)), .int .u8 ((((readIp l k).1).b3.toNat : Int)), .int .u8 ((((readIp l k).1).b4.toNat : Int)), .int .u8 ((((readIp l k).1).b5.toNat : Int)), .int .u8 ((((readIp l k).1).b6.toNat : Int)), .int .u8 ((((readIp l k).1).b7.toNat : Int)), .int .u8 ((((readIp l k).1).b8.toNat : Int)), .int .u8 ((((readIp l k).1).b9.toNat : Int)), .int .u8 ((((readIp l k).1).b10.toNat : Int)), .int .u8 ((((readIp l k).1).b11.toNat : Int)), .int .u8 ((((readIp l k).1).b12.toNat : Int)), .int .u8 ((((readIp l k).1).b13.toNat : Int)), .int .u8 ((((readIp l k).1).b14.toNat : Int)), .int .u8 ((((readIp l k).1).b15.toNat : Int)), .int .i64 0]) (x_load (p := .pointer (some ⟨b4, 0, none⟩)) rfl (by kernel_rfl) (run_loadA (k := 18) (by kernel_rfl) (by kernel_rfl) (hO.blk List.mem_cons_self) (by kernel_rfl) (by kernel_rfl))) ?_; clear hF; intro a hF
  refine Lc hF (cidr_Right (⟨((readIp l k).1), 0⟩ : Pt) W23) ?_
  clear hF; rintro _ W24 a ⟨rfl, hk⟩ hF
  replace hO := hO.call0 hk; clear hk
  refine Vp hF (.bool (!(rightCd (⟨((readIp l k).1), 0⟩ : Pt)))) ?_; clear hF; intro a hF
  refine L_nil ?_
  refine hK20 _ _ ?_
  cases q5 : (rightCd (⟨((readIp l k).1), 0⟩ : Pt) : Bool)
  ·
   replace hF := hF.know (d := 11) (v' := .bool true) (by kernel_rfl) (congrArg Value.bool (notT q5))
   refine cond_t hF (by kernel_rfl) (by kernel_rfl) ?_
   refine wp_region_lit ?_
   refine Vp hF (.pointer (some ⟨c, 0, none⟩)) ?_; clear hF; intro a hF
   refine Vr hF (errV ea 0) (x_load (p := .pointer (some ⟨1, 0, none⟩)) rfl (by kernel_rfl) (hE.load hO 0 1 h0 (by kernel_rfl))) ?_; clear hF; intro a hF
   replace hO := hO.front (.tail (.head _))
   refine Lc hF (cur_Fail_bad W0 _ ea c (.slice p l.length cap) (.int .i64 (((readIp l k).2.1 : Int))) ((readIp l k).2.2) 0 W24 hO (by assumption)) ?_
   clear hF; rintro _ W25 a ⟨rfl, hk⟩ hF; replace hO := hk; clear hk
   refine L_nil ?_
   refine hK19 _ _ ?_
   refine wp_seq_k fun K21 hK21 => ?_
   refine wp_seq_k fun K22 hK22 => ?_
   refine wp_region_lit ?_
   refine Vp hF (.pointer (some ⟨c, 0, none⟩)) ?_; clear hF; intro a hF
   replace hO := hO.front (.tail (.tail (.head _)))
   replace hO := hO.front (.tail (.head _))
   refine Lc hF (cur_Err W0 _ I ea c p cap l ((readIp l k).2.1) ((readIp l k).2.2) W25 hO (by omega) (by omega)) ?_
   clear hF; rintro _ W26 a ⟨rfl, hk⟩ hF; replace hO := hk; clear hk
   refine Vr hF (.bool ((readIp l k).2.2.isSome)) (x_eVNe (ea := ea) (e := (readIp l k).2.2) rfl (by kernel_rfl) (by kernel_rfl) (fun _ => by kernel_rfl) (by kernel_rfl)) ?_; clear hF; intro a hF
   refine L_nil ?_
   refine hK22 _ _ ?_
   replace hF := hF.know (d := 17) (v' := .bool true) (by kernel_rfl) (congrArg Value.bool q1)
   refine cond_t hF (by kernel_rfl) (by kernel_rfl) ?_
   refine wp_seq_k fun K23 hK23 => ?_
   refine wp_region_lit ?_
   refine Vp hF (.agg #[.bool false, .int .u8 0, .int .u8 0, .int .u8 0, .int .u8 0, .int .u8 0, .int .u8 0, .int .u8 0, .int .u8 0, .int .u8 0, .int .u8 0, .int .u8 0, .int .u8 0, .int .u8 0, .int .u8 0, .int .u8 0, .int .u8 0, .int .i64 0]) ?_; clear hF; intro a hF
   obtain ⟨W27, hst, hO1⟩ := run_storeAt (P := Tryz.prog) (k := 18) (T := 68) (off := 0) (v := .agg #[.bool false, .int .u8 0, .int .u8 0, .int .u8 0, .int .u8 0, .int .u8 0, .int .u8 0, .int .u8 0, .int .u8 0, .int .u8 0, .int .u8 0, .int .u8 0, .int .u8 0, .int .u8 0, .int .u8 0, .int .u8 0, .int .u8 0, .int .i64 0]) (cs := #[.bool false, .int .u8 0, .int .u8 0, .int .u8 0, .int .u8 0, .int .u8 0, .int .u8 0, .int .u8 0, .int .u8 0, .int .u8 0, .int .u8 0, .int .u8 0, .int .u8 0, .int .u8 0, .int .u8 0, .int .u8 0, .int .u8 0, .int .i64 0]) (cs' := #[.bool false, .int .u8 0, .int .u8 0, .int .u8 0, .int .u8 0, .int .u8 0, .int .u8 0, .int .u8 0, .int .u8 0, .int .u8 0, .int .u8 0, .int .u8 0, .int .u8 0, .int .u8 0, .int .u8 0, .int .u8 0, .int .u8 0, .int .i64 0]) hO (by kernel_rfl) (by kernel_rfl) (by kernel_rfl) (Nat.le_of_ble_eq_true (by kernel_rfl)) (by kernel_rfl) (.tail (.tail (.tail (.head _))))
   refine L_skip hF (by kernel_rfl) (by kernel_rfl) (x_store (p := .pointer (some ⟨b1, 0, none⟩)) (v := .agg #[.bool false, .int .u8 0, .int .u8 0, .int .u8 0, .int .u8 0, .int .u8 0, .int .u8 0, .int .u8 0, .int .u8 0, .int .u8 0, .int .u8 0, .int .u8 0, .int .u8 0, .int .u8 0, .int .u8 0, .int .u8 0, .int .u8 0, .int .i64 0]) rfl (by kernel_rfl) (by kernel_rfl) hst) (by kernel_rfl) ?_
   clear hst hF; intro a hF; replace hO := hO1; clear hO1
   refine L_nil ?_
   refine hK23 _ _ ?_
   refine wp_ret ?_
   refine then_ret ?_
   replace hO := hO.front (.tail (.head _))
   replace hO := hO.front (.tail (.head _))
   refine ret1 hF (v := .agg #[.bool false, .int .u8 0, .int .u8 0, .int .u8 0, .int .u8 0, .int .u8 0, .int .u8 0, .int .u8 0, .int .u8 0, .int .u8 0, .int .u8 0, .int .u8 0, .int .u8 0, .int .u8 0, .int .u8 0, .int .u8 0, .int .u8 0, .int .i64 0]) rfl (resC (ad := ⟨b1, 0, none⟩) (by kernel_rfl) (run_loadA (k := 18) (by kernel_rfl) (by kernel_rfl) (hO.blk (List.mem_cons_of_mem _ (List.mem_cons_of_mem _ (List.mem_cons_of_mem _ List.mem_cons_self)))) (by kernel_rfl) (by kernel_rfl))) (by have hr : readCd l k = (noPt, ((readIp l k).2.1), (readIp l k).2.2) := (by first | exact readCd_e (by assumption) | exact readCd_s (by assumption) (by assumption) | exact readCd_0 (by assumption) (by assumption) (by assumption) | exact readCd_ok (by assumption) (by assumption) (by assumption)); rw [hr]; exact ⟨rfl, hO.sub (.cons_cons _ (.cons_cons _ (.cons _ (.cons _ (List.Sublist.refl _)))))⟩) .ret (.inl rfl)
  ·
   replace hF := hF.know (d := 11) (v' := .bool false) (by kernel_rfl) (congrArg Value.bool (notF q5))
   refine cond_f hF (by kernel_rfl) (by kernel_rfl) ?_
   refine wp_skip ?_
   refine hK19 _ _ ?_
   refine wp_seq_k fun K24 hK24 => ?_
   refine wp_seq_k fun K25 hK25 => ?_
   refine wp_region_lit ?_
   refine Vp hF (.pointer (some ⟨c, 0, none⟩)) ?_; clear hF; intro a hF
   replace hO := hO.front (.tail (.tail (.head _)))
   replace hO := hO.front (.tail (.tail (.head _)))
   refine Lc hF (cur_Err W0 _ I ea c p cap l ((readIp l k).2.1) ((readIp l k).2.2) W24 hO (by omega) (by omega)) ?_
   clear hF; rintro _ W28 a ⟨rfl, hk⟩ hF; replace hO := hk; clear hk
   refine Vr hF (.bool ((readIp l k).2.2.isSome)) (x_eVNe (ea := ea) (e := (readIp l k).2.2) rfl (by kernel_rfl) (by kernel_rfl) (fun _ => by kernel_rfl) (by kernel_rfl)) ?_; clear hF; intro a hF
   refine L_nil ?_
   refine hK25 _ _ ?_
   replace hF := hF.know (d := 17) (v' := .bool true) (by kernel_rfl) (congrArg Value.bool q1)
   refine cond_t hF (by kernel_rfl) (by kernel_rfl) ?_
   refine wp_seq_k fun K26 hK26 => ?_
   refine wp_region_lit ?_
   refine Vp hF (.agg #[.bool false, .int .u8 0, .int .u8 0, .int .u8 0, .int .u8 0, .int .u8 0, .int .u8 0, .int .u8 0, .int .u8 0, .int .u8 0, .int .u8 0, .int .u8 0, .int .u8 0, .int .u8 0, .int .u8 0, .int .u8 0, .int .u8 0, .int .i64 0]) ?_; clear hF; intro a hF
   obtain ⟨W29, hst, hO1⟩ := run_storeAt (P := Tryz.prog) (k := 18) (T := 68) (off := 0) (v := .agg #[.bool false, .int .u8 0, .int .u8 0, .int .u8 0, .int .u8 0, .int .u8 0, .int .u8 0, .int .u8 0, .int .u8 0, .int .u8 0, .int .u8 0, .int .u8 0, .int .u8 0, .int .u8 0, .int .u8 0, .int .u8 0, .int .u8 0, .int .i64 0]) (cs := #[.bool false, .int .u8 0, .int .u8 0, .int .u8 0, .int .u8 0, .int .u8 0, .int .u8 0, .int .u8 0, .int .u8 0, .int .u8 0, .int .u8 0, .int .u8 0, .int .u8 0, .int .u8 0, .int .u8 0, .int .u8 0, .int .u8 0, .int .i64 0]) (cs' := #[.bool false, .int .u8 0, .int .u8 0, .int .u8 0, .int .u8 0, .int .u8 0, .int .u8 0, .int .u8 0, .int .u8 0, .int .u8 0, .int .u8 0, .int .u8 0, .int .u8 0, .int .u8 0, .int .u8 0, .int .u8 0, .int .u8 0, .int .i64 0]) hO (by kernel_rfl) (by kernel_rfl) (by kernel_rfl) (Nat.le_of_ble_eq_true (by kernel_rfl)) (by kernel_rfl) (.tail (.tail (.tail (.head _))))
   refine L_skip hF (by kernel_rfl) (by kernel_rfl) (x_store (p := .pointer (some ⟨b1, 0, none⟩)) (v := .agg #[.bool false, .int .u8 0, .int .u8 0, .int .u8 0, .int .u8 0, .int .u8 0, .int .u8 0, .int .u8 0, .int .u8 0, .int .u8 0, .int .u8 0, .int .u8 0, .int .u8 0, .int .u8 0, .int .u8 0, .int .u8 0, .int .u8 0, .int .i64 0]) rfl (by kernel_rfl) (by kernel_rfl) hst) (by kernel_rfl) ?_
   clear hst hF; intro a hF; replace hO := hO1; clear hO1
   refine L_nil ?_
   refine hK26 _ _ ?_
   refine wp_ret ?_
   refine then_ret ?_
   replace hO := hO.front (.tail (.head _))
   replace hO := hO.front (.tail (.head _))
   refine ret1 hF (v := .agg #[.bool false, .int .u8 0, .int .u8 0, .int .u8 0, .int .u8 0, .int .u8 0, .int .u8 0, .int .u8 0, .int .u8 0, .int .u8 0, .int .u8 0, .int .u8 0, .int .u8 0, .int .u8 0, .int .u8 0, .int .u8 0, .int .u8 0, .int .i64 0]) rfl (resC (ad := ⟨b1, 0, none⟩) (by kernel_rfl) (run_loadA (k := 18) (by kernel_rfl) (by kernel_rfl) (hO.blk (List.mem_cons_of_mem _ (List.mem_cons_of_mem _ (List.mem_cons_of_mem _ List.mem_cons_self)))) (by kernel_rfl) (by kernel_rfl))) (by have hr : readCd l k = (noPt, ((readIp l k).2.1), (readIp l k).2.2) := (by first | exact readCd_e (by assumption) | exact readCd_s (by assumption) (by assumption) | exact readCd_0 (by assumption) (by assumption) (by assumption) | exact readCd_ok (by assumption) (by assumption) (by assumption)); rw [hr]; exact ⟨rfl, hO.sub (.cons_cons _ (.cons_cons _ (.cons _ (.cons _ (List.Sublist.refl _)))))⟩) .ret (.inl rfl)

set_option maxRecDepth 20000 in
theorem rcidr_Read (W0 : World) (L : List Chunk) (c : Nat) (p : Option Addr) (cap : Nat) (l : List UInt8) (k : Nat) (e : Option Nat) (W : World) (hO : Own W0 noX (.blk c (.cells #[.slice p l.length cap, .int .i64 ((k : Int)), .int .i64 ((nE e))] 52 (0, 0)) :: L) W) (hl : SlAt W0 p (l.flatMap u8L)) (hcap : l.length ≤ cap) (hk : k ≤ l.length) (hsz : l.length ≤ 1000000) (he : e.isSome = false) : Ret Tryz.prog 74 #[.pointer (some ⟨c, 0, none⟩)] W fun v W' => v = ptV (readCd l k).1 ∧ Own W0 noX (.blk c (.cells #[.slice p l.length cap, .int .i64 (((readCd l k).2.1 : Int)), .int .i64 ((nE (readCd l k).2.2))] 52 (0, 0)) :: L) W' := by
 have hat := readIp_in (l := l) (k := k) hk
 refine enter Tryz.func74 rfl (n := 30) rfl (by kernel_rfl) (E0 := [(0, .pointer (some ⟨c, 0, none⟩))]) (by kernel_rfl) ?_
 intro a hF; have hO := hO
 refine wp_seq_k fun K1 hK1 => ?_
 refine wp_region_lit ?_
 refine L_new hF hO (by kernel_rfl) (by kernel_rfl) (vf := fun b => .pointer (some ⟨b, 0, none⟩)) (ob := .cells #[.bool false, .int .u8 0, .int .u8 0, .int .u8 0, .int .u8 0, .int .u8 0, .int .u8 0, .int .u8 0, .int .u8 0, .int .u8 0, .int .u8 0, .int .u8 0, .int .u8 0, .int .u8 0, .int .u8 0, .int .u8 0, .int .u8 0, .int .i64 0] 68) (by kernel_rfl) (by kernel_rfl) ?_
 clear hF hO; intro b1 W1 a hO hF
 refine L_nil ?_
 refine hK1 _ _ ?_
 refine wp_seq_k fun K2 hK2 => ?_
 refine wp_region_lit ?_
 refine Vp hF (.pointer (some ⟨c, 0, none⟩)) ?_; clear hF; intro a hF
 replace hO := hO.front (.tail (.head _))
 refine Lc hF (ref02_Read_ok W0 _ c p cap l k e W1 hO hl (by omega) (by omega) (by omega) (by assumption)) ?_
 clear hF; rintro _ W2 a ⟨rfl, hk⟩ hF; replace hO := hk; clear hk
 refine Vp hF (.agg #[.bool (((readIp l k).1).six), .int .u8 ((((readIp l k).1).b0.toNat : Int)), .int .u8 ((((readIp l k).1).b1.toNat : Int)), .int .u8 ((((readIp l k).1).b2.toNat : Int)), .int .u8 ((((readIp l k).1).b3.toNat : Int)), .int .u8 ((((readIp l k).1).b4.toNat : Int)), .int .u8 ((((readIp l k).1).b5.toNat : Int)), .int .u8 ((((readIp l k).1).b6.toNat : Int)), .int .u8 ((((readIp l k).1).b7.toNat : Int)), .int .u8 ((((readIp l k).1).b8.toNat : Int)), .int .u8 ((((readIp l k).1).b9.toNat : Int)), .int .u8 ((((readIp l k).1).b10.toNat : Int)), .int .u8 ((((readIp l k).1).b11.toNat : Int)), .int .u8 ((((readIp l k).1).b12.toNat : Int)), .int .u8 ((((readIp l k).1).b13.toNat : Int)), .int .u8 ((((readIp l k).1).b14.toNat : Int)), .int .u8 ((((readIp l k).1).b15.toNat : Int)), .int .i64 0]) ?_; clear hF; intro a hF
 refine L_new hF hO (by kernel_rfl) (by kernel_rfl) (vf := fun b => .pointer (some ⟨b, 0, none⟩)) (ob := .cells #[.bool false, .int .u8 0, .int .u8 0, .int .u8 0, .int .u8 0, .int .u8 0, .int .u8 0, .int .u8 0, .int .u8 0, .int .u8 0, .int .u8 0, .int .u8 0, .int .u8 0, .int .u8 0, .int .u8 0, .int .u8 0, .int .u8 0, .int .i64 0] 68) (by kernel_rfl) (by kernel_rfl) ?_
 clear hF hO; intro b2 W3 a hO hF
 obtain ⟨W4, hst, hO1⟩ := run_storeAt (P := Tryz.prog) (k := 18) (T := 68) (off := 0) (v := .agg #[.bool (((readIp l k).1).six), .int .u8 ((((readIp l k).1).b0.toNat : Int)), .int .u8 ((((readIp l k).1).b1.toNat : Int)), .int .u8 ((((readIp l k).1).b2.toNat : Int)), .int .u8 ((((readIp l k).1).b3.toNat : Int)), .int .u8 ((((readIp l k).1).b4.toNat : Int)), .int .u8 ((((readIp l k).1).b5.toNat : Int)), .int .u8 ((((readIp l k).1).b6.toNat : Int)), .int .u8 ((((readIp l k).1).b7.toNat : Int)), .int .u8 ((((readIp l k).1).b8.toNat : Int)), .int .u8 ((((readIp l k).1).b9.toNat : Int)), .int .u8 ((((readIp l k).1).b10.toNat : Int)), .int .u8 ((((readIp l k).1).b11.toNat : Int)), .int .u8 ((((readIp l k).1).b12.toNat : Int)), .int .u8 ((((readIp l k).1).b13.toNat : Int)), .int .u8 ((((readIp l k).1).b14.toNat : Int)), .int .u8 ((((readIp l k).1).b15.toNat : Int)), .int .i64 0]) (cs := #[.bool false, .int .u8 0, .int .u8 0, .int .u8 0, .int .u8 0, .int .u8 0, .int .u8 0, .int .u8 0, .int .u8 0, .int .u8 0, .int .u8 0, .int .u8 0, .int .u8 0, .int .u8 0, .int .u8 0, .int .u8 0, .int .u8 0, .int .i64 0]) (cs' := #[.bool (((readIp l k).1).six), .int .u8 ((((readIp l k).1).b0.toNat : Int)), .int .u8 ((((readIp l k).1).b1.toNat : Int)), .int .u8 ((((readIp l k).1).b2.toNat : Int)), .int .u8 ((((readIp l k).1).b3.toNat : Int)), .int .u8 ((((readIp l k).1).b4.toNat : Int)), .int .u8 ((((readIp l k).1).b5.toNat : Int)), .int .u8 ((((readIp l k).1).b6.toNat : Int)), .int .u8 ((((readIp l k).1).b7.toNat : Int)), .int .u8 ((((readIp l k).1).b8.toNat : Int)), .int .u8 ((((readIp l k).1).b9.toNat : Int)), .int .u8 ((((readIp l k).1).b10.toNat : Int)), .int .u8 ((((readIp l k).1).b11.toNat : Int)), .int .u8 ((((readIp l k).1).b12.toNat : Int)), .int .u8 ((((readIp l k).1).b13.toNat : Int)), .int .u8 ((((readIp l k).1).b14.toNat : Int)), .int .u8 ((((readIp l k).1).b15.toNat : Int)), .int .i64 0]) hO (by kernel_rfl) (by kernel_rfl) (by kernel_rfl) (Nat.le_of_ble_eq_true (by kernel_rfl)) (by kernel_rfl) (.head _)
 refine L_skip hF (by kernel_rfl) (by kernel_rfl) (x_store (p := .pointer (some ⟨b2, 0, none⟩)) (v := .agg #[.bool (((readIp l k).1).six), .int .u8 ((((readIp l k).1).b0.toNat : Int)), .int .u8 ((((readIp l k).1).b1.toNat : Int)), .int .u8 ((((readIp l k).1).b2.toNat : Int)), .int .u8 ((((readIp l k).1).b3.toNat : Int)), .int .u8 ((((readIp l k).1).b4.toNat : Int)), .int .u8 ((((readIp l k).1).b5.toNat : Int)), .int .u8 ((((readIp l k).1).b6.toNat : Int)), .int .u8 ((((readIp l k).1).b7.toNat : Int)), .int .u8 ((((readIp l k).1).b8.toNat : Int)), .int .u8 ((((readIp l k).1).b9.toNat : Int)), .int .u8 ((((readIp l k).1).b10.toNat : Int)), .int .u8 ((((readIp l k).1).b11.toNat : Int)), .int .u8 ((((readIp l k).1).b12.toNat : Int)), .int .u8 ((((readIp l k).1).b13.toNat : Int)), .int .u8 ((((readIp l k).1).b14.toNat : Int)), .int .u8 ((((readIp l k).1).b15.toNat : Int)), .int .i64 0]) rfl (by kernel_rfl) (by kernel_rfl) hst) (by kernel_rfl) ?_
 clear hst hF; intro a hF; replace hO := hO1; clear hO1
 refine L_nil ?_
 refine hK2 _ _ ?_
 refine wp_seq_k fun K3 hK3 => ?_
 refine wp_region_lit ?_
 refine Vp hF (.pointer (some ⟨c, 0, none⟩)) ?_; clear hF; intro a hF
 cases q1 : ((readIp l k).2.2.isSome : Bool)
 ·
  by_cases q2 : ((readIp l k).2.1) + 1 ≤ l.length
  ·
   replace hO := hO.front (.tail (.head _))
   refine Lc hF (rcur_Num1_ok W0 _ c p cap l ((readIp l k).2.1) ((readIp l k).2.2) W4 hO hl (by omega) (by omega) (by omega) (by assumption) (by assumption)) ?_
   clear hF; rintro _ W5 a ⟨rfl, hk⟩ hF; replace hO := hk; clear hk
   refine Vp hF (.pointer (some ⟨b2, 17, none⟩)) ?_; clear hF; intro a hF
   obtain ⟨W6, hst, hO1⟩ := run_storeAt (P := Tryz.prog) (k := 1) (T := 3) (off := 17) (v := .int .i64 ((numB (seg l ((readIp l k).2.1) 1) : Int))) (cs := #[.bool (((readIp l k).1).six), .int .u8 ((((readIp l k).1).b0.toNat : Int)), .int .u8 ((((readIp l k).1).b1.toNat : Int)), .int .u8 ((((readIp l k).1).b2.toNat : Int)), .int .u8 ((((readIp l k).1).b3.toNat : Int)), .int .u8 ((((readIp l k).1).b4.toNat : Int)), .int .u8 ((((readIp l k).1).b5.toNat : Int)), .int .u8 ((((readIp l k).1).b6.toNat : Int)), .int .u8 ((((readIp l k).1).b7.toNat : Int)), .int .u8 ((((readIp l k).1).b8.toNat : Int)), .int .u8 ((((readIp l k).1).b9.toNat : Int)), .int .u8 ((((readIp l k).1).b10.toNat : Int)), .int .u8 ((((readIp l k).1).b11.toNat : Int)), .int .u8 ((((readIp l k).1).b12.toNat : Int)), .int .u8 ((((readIp l k).1).b13.toNat : Int)), .int .u8 ((((readIp l k).1).b14.toNat : Int)), .int .u8 ((((readIp l k).1).b15.toNat : Int)), .int .i64 0]) (cs' := #[.bool (((readIp l k).1).six), .int .u8 ((((readIp l k).1).b0.toNat : Int)), .int .u8 ((((readIp l k).1).b1.toNat : Int)), .int .u8 ((((readIp l k).1).b2.toNat : Int)), .int .u8 ((((readIp l k).1).b3.toNat : Int)), .int .u8 ((((readIp l k).1).b4.toNat : Int)), .int .u8 ((((readIp l k).1).b5.toNat : Int)), .int .u8 ((((readIp l k).1).b6.toNat : Int)), .int .u8 ((((readIp l k).1).b7.toNat : Int)), .int .u8 ((((readIp l k).1).b8.toNat : Int)), .int .u8 ((((readIp l k).1).b9.toNat : Int)), .int .u8 ((((readIp l k).1).b10.toNat : Int)), .int .u8 ((((readIp l k).1).b11.toNat : Int)), .int .u8 ((((readIp l k).1).b12.toNat : Int)), .int .u8 ((((readIp l k).1).b13.toNat : Int)), .int .u8 ((((readIp l k).1).b14.toNat : Int)), .int .u8 ((((readIp l k).1).b15.toNat : Int)), .int .i64 ((numB (seg l ((readIp l k).2.1) 1) : Int))]) hO (by kernel_rfl) (by kernel_rfl) (by kernel_rfl) (Nat.le_of_ble_eq_true (by kernel_rfl)) (by kernel_rfl) (.tail (.head _))
   refine L_skip hF (by kernel_rfl) (by kernel_rfl) (x_store (p := .pointer (some ⟨b2, 17, none⟩)) (v := .int .i64 ((numB (seg l ((readIp l k).2.1) 1) : Int))) rfl (by kernel_rfl) (by kernel_rfl) hst) (by kernel_rfl) ?_
   clear hst hF; intro a hF; replace hO := hO1; clear hO1
   refine L_nil ?_
   refine hK3 _ _ ?_
   refine wp_seq_k fun K4 hK4 => ?_
   refine wp_seq_k fun K5 hK5 => ?_
   refine wp_region_lit ?_
   refine Vp hF (.pointer (some ⟨c, 0, none⟩)) ?_; clear hF; intro a hF
   refine Vp hF (.pointer (some ⟨c, 0, none⟩)) ?_; clear hF; intro a hF
   refine Vp hF (.pointer (some ⟨c, 2, none⟩)) ?_; clear hF; intro a hF
   refine Vr hF (.int .i64 ((nE none))) (x_load (p := .pointer (some ⟨c, 2, none⟩)) rfl (by kernel_rfl) (run_load1 (by kernel_rfl) ((hO.cell List.mem_cons_self).trans (by kernel_rfl)))) ?_; clear hF; intro a hF
   refine Vr hF (.bool true) (x_bool (x := (nE none == 0)) (nE_eq none) (by kernel_rfl)) ?_; clear hF; intro a hF
   refine Vp hF (.bool true) ?_; clear hF; intro a hF
   refine Vr hF (.agg #[.bool (((readIp l k).1).six), .int .u8 ((((readIp l k).1).b0.toNat : Int)), .int .u8 ((((readIp l k).1).b1.toNat : Int)), .int .u8 ((((readIp l k).1).b2.toNat : Int)), .int .u8 ((((readIp l k).1).b3.toNat : Int)), .int .u8 ((((readIp l k).1).b4.toNat : Int)), .int .u8 ((((readIp l k).1).b5.toNat : Int)), .int .u8 ((((readIp l k).1).b6.toNat : Int)), .int .u8 ((((readIp l k).1).b7.toNat : Int)), .int .u8 ((((readIp l k).1).b8.toNat : Int)), .int .u8 ((((readIp l k).1).b9.toNat : Int)), .int .u8 ((((readIp l k).1).b10.toNat : Int)), .int .u8 ((((readIp l k).1).b11.toNat : Int)), .int .u8 ((((readIp l k).1).b12.toNat : Int)), .int .u8 ((((readIp l k).1).b13.toNat : Int)), .int .u8 ((((readIp l k).1).b14.toNat : Int)), .int .u8 ((((readIp l k).1).b15.toNat : Int)), .int .i64 ((numB (seg l ((readIp l k).2.1) 1) : Int))]) (x_load (p := .pointer (some ⟨b2, 0, none⟩)) rfl (by kernel_rfl) (run_loadA (k := 18) (by kernel_rfl) (by kernel_rfl) (hO.blk (List.mem_cons_of_mem _ List.mem_cons_self)) (by kernel_rfl) (by kernel_rfl))) ?_; clear hF; intro a hF
   refine Lc hF (ref03_Right (⟨((readIp l k).1), (numB (seg l ((readIp l k).2.1) 1) : Int)⟩ : Pt) W6) ?_
   clear hF; rintro _ W7 a ⟨rfl, hk⟩ hF
   replace hO := hO.call0 hk; clear hk
   refine Vp hF (.bool (!(rightCd (⟨((readIp l k).1), (numB (seg l ((readIp l k).2.1) 1) : Int)⟩ : Pt)))) ?_; clear hF; intro a hF
   refine Vp hF (.bool (!(rightCd (⟨((readIp l k).1), (numB (seg l ((readIp l k).2.1) 1) : Int)⟩ : Pt)))) ?_; clear hF; intro a hF
   refine L_nil ?_
   refine hK5 _ _ ?_
   cases q3 : (rightCd (⟨((readIp l k).1), (numB (seg l ((readIp l k).2.1) 1) : Int)⟩ : Pt) : Bool)
   ·
    replace hF := hF.know (d := 19) (v' := .bool true) (by kernel_rfl) (congrArg Value.bool (notT q3))
    refine cond_t hF (by kernel_rfl) (by kernel_rfl) ?_
    refine wp_region_lit ?_
    refine Vp hF (.pointer (some ⟨c, 0, none⟩)) ?_; clear hF; intro a hF
    refine Vp hF (.pointer (some ⟨c, 0, none⟩)) ?_; clear hF; intro a hF
    refine Vp hF (.pointer (some ⟨c, 2, none⟩)) ?_; clear hF; intro a hF
    obtain ⟨W8, hst, hO1⟩ := run_storeAt (P := Tryz.prog) (k := 1) (T := 3) (off := 2) (v := .int .i64 1) (cs := #[.slice p l.length cap, .int .i64 (((((readIp l k).2.1) + 1 : Nat) : Int)), .int .i64 ((nE none))]) (cs' := #[.slice p l.length cap, .int .i64 (((((readIp l k).2.1) + 1 : Nat) : Int)), .int .i64 1]) hO (by kernel_rfl) (by kernel_rfl) (by kernel_rfl) (Nat.le_of_ble_eq_true (by kernel_rfl)) (by kernel_rfl) (.head _)
    refine L_skip hF (by kernel_rfl) (by kernel_rfl) (x_store (p := .pointer (some ⟨c, 2, none⟩)) (v := .int .i64 1) rfl (by kernel_rfl) (by kernel_rfl) hst) (by kernel_rfl) ?_
    clear hst hF; intro a hF; replace hO := hO1; clear hO1
    refine L_nil ?_
    refine hK4 _ _ ?_
    refine wp_seq_k fun K6 hK6 => ?_
    refine wp_seq_k fun K7 hK7 => ?_
    refine wp_region_lit ?_
    refine Vp hF (.pointer (some ⟨c, 0, none⟩)) ?_; clear hF; intro a hF
    refine Vp hF (.pointer (some ⟨c, 0, none⟩)) ?_; clear hF; intro a hF
    refine Vp hF (.pointer (some ⟨c, 2, none⟩)) ?_; clear hF; intro a hF
    refine Vr hF (.int .i64 1) (x_load (p := .pointer (some ⟨c, 2, none⟩)) rfl (by kernel_rfl) (run_load1 (by kernel_rfl) ((hO.cell List.mem_cons_self).trans (by kernel_rfl)))) ?_; clear hF; intro a hF
    refine Vp hF (.bool true) ?_; clear hF; intro a hF
    refine L_nil ?_
    refine hK7 _ _ ?_
    refine cond_t hF (by kernel_rfl) (by kernel_rfl) ?_
    refine wp_seq_k fun K8 hK8 => ?_
    refine wp_region_lit ?_
    refine Vp hF (.agg #[.bool false, .int .u8 0, .int .u8 0, .int .u8 0, .int .u8 0, .int .u8 0, .int .u8 0, .int .u8 0, .int .u8 0, .int .u8 0, .int .u8 0, .int .u8 0, .int .u8 0, .int .u8 0, .int .u8 0, .int .u8 0, .int .u8 0, .int .i64 0]) ?_; clear hF; intro a hF
    obtain ⟨W9, hst, hO1⟩ := run_storeAt (P := Tryz.prog) (k := 18) (T := 68) (off := 0) (v := .agg #[.bool false, .int .u8 0, .int .u8 0, .int .u8 0, .int .u8 0, .int .u8 0, .int .u8 0, .int .u8 0, .int .u8 0, .int .u8 0, .int .u8 0, .int .u8 0, .int .u8 0, .int .u8 0, .int .u8 0, .int .u8 0, .int .u8 0, .int .i64 0]) (cs := #[.bool false, .int .u8 0, .int .u8 0, .int .u8 0, .int .u8 0, .int .u8 0, .int .u8 0, .int .u8 0, .int .u8 0, .int .u8 0, .int .u8 0, .int .u8 0, .int .u8 0, .int .u8 0, .int .u8 0, .int .u8 0, .int .u8 0, .int .i64 0]) (cs' := #[.bool false, .int .u8 0, .int .u8 0, .int .u8 0, .int .u8 0, .int .u8 0, .int .u8 0, .int .u8 0, .int .u8 0, .int .u8 0, .int .u8 0, .int .u8 0, .int .u8 0, .int .u8 0, .int .u8 0, .int .u8 0, .int .u8 0, .int .i64 0]) hO (by kernel_rfl) (by kernel_rfl) (by kernel_rfl) (Nat.le_of_ble_eq_true (by kernel_rfl)) (by kernel_rfl) (.tail (.tail (.head _)))
    refine L_skip hF (by kernel_rfl) (by kernel_rfl) (x_store (p := .pointer (some ⟨b1, 0, none⟩)) (v := .agg #[.bool false, .int .u8 0, .int .u8 0, .int .u8 0, .int .u8 0, .int .u8 0, .int .u8 0, .int .u8 0, .int .u8 0, .int .u8 0, .int .u8 0, .int .u8 0, .int .u8 0, .int .u8 0, .int .u8 0, .int .u8 0, .int .u8 0, .int .i64 0]) rfl (by kernel_rfl) (by kernel_rfl) hst) (by kernel_rfl) ?_
    clear hst hF; intro a hF; replace hO := hO1; clear hO1
    refine L_nil ?_
    refine hK8 _ _ ?_
    refine wp_ret ?_
    refine then_ret ?_
    refine ret1 hF (v := .agg #[.bool false, .int .u8 0, .int .u8 0, .int .u8 0, .int .u8 0, .int .u8 0, .int .u8 0, .int .u8 0, .int .u8 0, .int .u8 0, .int .u8 0, .int .u8 0, .int .u8 0, .int .u8 0, .int .u8 0, .int .u8 0, .int .u8 0, .int .i64 0]) rfl (resC (ad := ⟨b1, 0, none⟩) (by kernel_rfl) (run_loadA (k := 18) (by kernel_rfl) (by kernel_rfl) (hO.blk (List.mem_cons_of_mem _ (List.mem_cons_of_mem _ List.mem_cons_self))) (by kernel_rfl) (by kernel_rfl))) (by have hr : readCd l k = (noPt, (((readIp l k).2.1) + 1 : Nat), (some 0)) := (by first | exact readCd_e (by assumption) | exact readCd_s (by assumption) (by assumption) | exact readCd_0 (by assumption) (by assumption) (by assumption) | exact readCd_ok (by assumption) (by assumption) (by assumption)); rw [hr]; exact ⟨rfl, hO.sub (.cons_cons _ (.cons _ (.cons _ (List.Sublist.refl _))))⟩) .ret (.inl rfl)
   ·
    replace hF := hF.know (d := 19) (v' := .bool false) (by kernel_rfl) (congrArg Value.bool (notF q3))
    refine cond_f hF (by kernel_rfl) (by kernel_rfl) ?_
    refine wp_skip ?_
    refine hK4 _ _ ?_
    refine wp_seq_k fun K9 hK9 => ?_
    refine wp_seq_k fun K10 hK10 => ?_
    refine wp_region_lit ?_
    refine Vp hF (.pointer (some ⟨c, 0, none⟩)) ?_; clear hF; intro a hF
    refine Vp hF (.pointer (some ⟨c, 0, none⟩)) ?_; clear hF; intro a hF
    refine Vp hF (.pointer (some ⟨c, 2, none⟩)) ?_; clear hF; intro a hF
    refine Vr hF (.int .i64 ((nE none))) (x_load (p := .pointer (some ⟨c, 2, none⟩)) rfl (by kernel_rfl) (run_load1 (by kernel_rfl) ((hO.cell List.mem_cons_self).trans (by kernel_rfl)))) ?_; clear hF; intro a hF
    refine Vr hF (.bool false) (x_bool (x := !(nE none == 0)) (nE_ne none) (by kernel_rfl)) ?_; clear hF; intro a hF
    refine L_nil ?_
    refine hK10 _ _ ?_
    refine cond_f hF (by kernel_rfl) (by kernel_rfl) ?_
    refine wp_skip ?_
    refine hK9 _ _ ?_
    refine wp_seq_k fun K11 hK11 => ?_
    refine wp_region_lit ?_
    refine Vr hF (.agg #[.bool (((readIp l k).1).six), .int .u8 ((((readIp l k).1).b0.toNat : Int)), .int .u8 ((((readIp l k).1).b1.toNat : Int)), .int .u8 ((((readIp l k).1).b2.toNat : Int)), .int .u8 ((((readIp l k).1).b3.toNat : Int)), .int .u8 ((((readIp l k).1).b4.toNat : Int)), .int .u8 ((((readIp l k).1).b5.toNat : Int)), .int .u8 ((((readIp l k).1).b6.toNat : Int)), .int .u8 ((((readIp l k).1).b7.toNat : Int)), .int .u8 ((((readIp l k).1).b8.toNat : Int)), .int .u8 ((((readIp l k).1).b9.toNat : Int)), .int .u8 ((((readIp l k).1).b10.toNat : Int)), .int .u8 ((((readIp l k).1).b11.toNat : Int)), .int .u8 ((((readIp l k).1).b12.toNat : Int)), .int .u8 ((((readIp l k).1).b13.toNat : Int)), .int .u8 ((((readIp l k).1).b14.toNat : Int)), .int .u8 ((((readIp l k).1).b15.toNat : Int)), .int .i64 ((numB (seg l ((readIp l k).2.1) 1) : Int))]) (x_load (p := .pointer (some ⟨b2, 0, none⟩)) rfl (by kernel_rfl) (run_loadA (k := 18) (by kernel_rfl) (by kernel_rfl) (hO.blk (List.mem_cons_of_mem _ List.mem_cons_self)) (by kernel_rfl) (by kernel_rfl))) ?_; clear hF; intro a hF
    obtain ⟨W10, hst, hO1⟩ := run_storeAt (P := Tryz.prog) (k := 18) (T := 68) (off := 0) (v := .agg #[.bool (((readIp l k).1).six), .int .u8 ((((readIp l k).1).b0.toNat : Int)), .int .u8 ((((readIp l k).1).b1.toNat : Int)), .int .u8 ((((readIp l k).1).b2.toNat : Int)), .int .u8 ((((readIp l k).1).b3.toNat : Int)), .int .u8 ((((readIp l k).1).b4.toNat : Int)), .int .u8 ((((readIp l k).1).b5.toNat : Int)), .int .u8 ((((readIp l k).1).b6.toNat : Int)), .int .u8 ((((readIp l k).1).b7.toNat : Int)), .int .u8 ((((readIp l k).1).b8.toNat : Int)), .int .u8 ((((readIp l k).1).b9.toNat : Int)), .int .u8 ((((readIp l k).1).b10.toNat : Int)), .int .u8 ((((readIp l k).1).b11.toNat : Int)), .int .u8 ((((readIp l k).1).b12.toNat : Int)), .int .u8 ((((readIp l k).1).b13.toNat : Int)), .int .u8 ((((readIp l k).1).b14.toNat : Int)), .int .u8 ((((readIp l k).1).b15.toNat : Int)), .int .i64 ((numB (seg l ((readIp l k).2.1) 1) : Int))]) (cs := #[.bool false, .int .u8 0, .int .u8 0, .int .u8 0, .int .u8 0, .int .u8 0, .int .u8 0, .int .u8 0, .int .u8 0, .int .u8 0, .int .u8 0, .int .u8 0, .int .u8 0, .int .u8 0, .int .u8 0, .int .u8 0, .int .u8 0, .int .i64 0]) (cs' := #[.bool (((readIp l k).1).six), .int .u8 ((((readIp l k).1).b0.toNat : Int)), .int .u8 ((((readIp l k).1).b1.toNat : Int)), .int .u8 ((((readIp l k).1).b2.toNat : Int)), .int .u8 ((((readIp l k).1).b3.toNat : Int)), .int .u8 ((((readIp l k).1).b4.toNat : Int)), .int .u8 ((((readIp l k).1).b5.toNat : Int)), .int .u8 ((((readIp l k).1).b6.toNat : Int)), .int .u8 ((((readIp l k).1).b7.toNat : Int)), .int .u8 ((((readIp l k).1).b8.toNat : Int)), .int .u8 ((((readIp l k).1).b9.toNat : Int)), .int .u8 ((((readIp l k).1).b10.toNat : Int)), .int .u8 ((((readIp l k).1).b11.toNat : Int)), .int .u8 ((((readIp l k).1).b12.toNat : Int)), .int .u8 ((((readIp l k).1).b13.toNat : Int)), .int .u8 ((((readIp l k).1).b14.toNat : Int)), .int .u8 ((((readIp l k).1).b15.toNat : Int)), .int .i64 ((numB (seg l ((readIp l k).2.1) 1) : Int))]) hO (by kernel_rfl) (by kernel_rfl) (by kernel_rfl) (Nat.le_of_ble_eq_true (by kernel_rfl)) (by kernel_rfl) (.tail (.tail (.head _)))
    refine L_skip hF (by kernel_rfl) (by kernel_rfl) (x_store (p := .pointer (some ⟨b1, 0, none⟩)) (v := .agg #[.bool (((readIp l k).1).six), .int .u8 ((((readIp l k).1).b0.toNat : Int)), .int .u8 ((((readIp l k).1).b1.toNat : Int)), .int .u8 ((((readIp l k).1).b2.toNat : Int)), .int .u8 ((((readIp l k).1).b3.toNat : Int)), .int .u8 ((((readIp l k).1).b4.toNat : Int)), .int .u8 ((((readIp l k).1).b5.toNat : Int)), .int .u8 ((((readIp l k).1).b6.toNat : Int)), .int .u8 ((((readIp l k).1).b7.toNat : Int)), .int .u8 ((((readIp l k).1).b8.toNat : Int)), .int .u8 ((((readIp l k).1).b9.toNat : Int)), .int .u8 ((((readIp l k).1).b10.toNat : Int)), .int .u8 ((((readIp l k).1).b11.toNat : Int)), .int .u8 ((((readIp l k).1).b12.toNat : Int)), .int .u8 ((((readIp l k).1).b13.toNat : Int)), .int .u8 ((((readIp l k).1).b14.toNat : Int)), .int .u8 ((((readIp l k).1).b15.toNat : Int)), .int .i64 ((numB (seg l ((readIp l k).2.1) 1) : Int))]) rfl (by kernel_rfl) (by kernel_rfl) hst) (by kernel_rfl) ?_
    clear hst hF; intro a hF; replace hO := hO1; clear hO1
    refine L_nil ?_
    refine hK11 _ _ ?_
    refine wp_ret ?_
    refine ret1 hF (v := .agg #[.bool (((readIp l k).1).six), .int .u8 ((((readIp l k).1).b0.toNat : Int)), .int .u8 ((((readIp l k).1).b1.toNat : Int)), .int .u8 ((((readIp l k).1).b2.toNat : Int)), .int .u8 ((((readIp l k).1).b3.toNat : Int)), .int .u8 ((((readIp l k).1).b4.toNat : Int)), .int .u8 ((((readIp l k).1).b5.toNat : Int)), .int .u8 ((((readIp l k).1).b6.toNat : Int)), .int .u8 ((((readIp l k).1).b7.toNat : Int)), .int .u8 ((((readIp l k).1).b8.toNat : Int)), .int .u8 ((((readIp l k).1).b9.toNat : Int)), .int .u8 ((((readIp l k).1).b10.toNat : Int)), .int .u8 ((((readIp l k).1).b11.toNat : Int)), .int .u8 ((((readIp l k).1).b12.toNat : Int)), .int .u8 ((((readIp l k).1).b13.toNat : Int)), .int .u8 ((((readIp l k).1).b14.toNat : Int)), .int .u8 ((((readIp l k).1).b15.toNat : Int)), .int .i64 ((numB (seg l ((readIp l k).2.1) 1) : Int))]) rfl (resC (ad := ⟨b1, 0, none⟩) (by kernel_rfl) (run_loadA (k := 18) (by kernel_rfl) (by kernel_rfl) (hO.blk (List.mem_cons_of_mem _ (List.mem_cons_of_mem _ List.mem_cons_self))) (by kernel_rfl) (by kernel_rfl))) (by have hr : readCd l k = ((⟨((readIp l k).1), (numB (seg l ((readIp l k).2.1) 1) : Int)⟩ : Pt), (((readIp l k).2.1) + 1 : Nat), none) := (by first | exact readCd_e (by assumption) | exact readCd_s (by assumption) (by assumption) | exact readCd_0 (by assumption) (by assumption) (by assumption) | exact readCd_ok (by assumption) (by assumption) (by assumption)); rw [hr]; exact ⟨rfl, hO.sub (.cons_cons _ (.cons _ (.cons _ (List.Sublist.refl _))))⟩) .ret (.inl rfl)
  ·
   replace hO := hO.front (.tail (.head _))
   refine Lc hF (rcur_Num1_short W0 _ c p cap l ((readIp l k).2.1) ((readIp l k).2.2) W4 hO hl (by omega) (by omega) (by omega) (by assumption) (by assumption)) ?_
   clear hF; rintro _ W11 a ⟨rfl, hk⟩ hF; replace hO := hk; clear hk
   refine Vp hF (.pointer (some ⟨b2, 17, none⟩)) ?_; clear hF; intro a hF
   obtain ⟨W12, hst, hO1⟩ := run_storeAt (P := Tryz.prog) (k := 1) (T := 3) (off := 17) (v := .int .i64 0) (cs := #[.bool (((readIp l k).1).six), .int .u8 ((((readIp l k).1).b0.toNat : Int)), .int .u8 ((((readIp l k).1).b1.toNat : Int)), .int .u8 ((((readIp l k).1).b2.toNat : Int)), .int .u8 ((((readIp l k).1).b3.toNat : Int)), .int .u8 ((((readIp l k).1).b4.toNat : Int)), .int .u8 ((((readIp l k).1).b5.toNat : Int)), .int .u8 ((((readIp l k).1).b6.toNat : Int)), .int .u8 ((((readIp l k).1).b7.toNat : Int)), .int .u8 ((((readIp l k).1).b8.toNat : Int)), .int .u8 ((((readIp l k).1).b9.toNat : Int)), .int .u8 ((((readIp l k).1).b10.toNat : Int)), .int .u8 ((((readIp l k).1).b11.toNat : Int)), .int .u8 ((((readIp l k).1).b12.toNat : Int)), .int .u8 ((((readIp l k).1).b13.toNat : Int)), .int .u8 ((((readIp l k).1).b14.toNat : Int)), .int .u8 ((((readIp l k).1).b15.toNat : Int)), .int .i64 0]) (cs' := #[.bool (((readIp l k).1).six), .int .u8 ((((readIp l k).1).b0.toNat : Int)), .int .u8 ((((readIp l k).1).b1.toNat : Int)), .int .u8 ((((readIp l k).1).b2.toNat : Int)), .int .u8 ((((readIp l k).1).b3.toNat : Int)), .int .u8 ((((readIp l k).1).b4.toNat : Int)), .int .u8 ((((readIp l k).1).b5.toNat : Int)), .int .u8 ((((readIp l k).1).b6.toNat : Int)), .int .u8 ((((readIp l k).1).b7.toNat : Int)), .int .u8 ((((readIp l k).1).b8.toNat : Int)), .int .u8 ((((readIp l k).1).b9.toNat : Int)), .int .u8 ((((readIp l k).1).b10.toNat : Int)), .int .u8 ((((readIp l k).1).b11.toNat : Int)), .int .u8 ((((readIp l k).1).b12.toNat : Int)), .int .u8 ((((readIp l k).1).b13.toNat : Int)), .int .u8 ((((readIp l k).1).b14.toNat : Int)), .int .u8 ((((readIp l k).1).b15.toNat : Int)), .int .i64 0]) hO (by kernel_rfl) (by kernel_rfl) (by kernel_rfl) (Nat.le_of_ble_eq_true (by kernel_rfl)) (by kernel_rfl) (.tail (.head _))
   refine L_skip hF (by kernel_rfl) (by kernel_rfl) (x_store (p := .pointer (some ⟨b2, 17, none⟩)) (v := .int .i64 0) rfl (by kernel_rfl) (by kernel_rfl) hst) (by kernel_rfl) ?_
   clear hst hF; intro a hF; replace hO := hO1; clear hO1
   refine L_nil ?_
   refine hK3 _ _ ?_
   refine wp_seq_k fun K12 hK12 => ?_
   refine wp_seq_k fun K13 hK13 => ?_
   refine wp_region_lit ?_
   refine Vp hF (.pointer (some ⟨c, 0, none⟩)) ?_; clear hF; intro a hF
   refine Vp hF (.pointer (some ⟨c, 0, none⟩)) ?_; clear hF; intro a hF
   refine Vp hF (.pointer (some ⟨c, 2, none⟩)) ?_; clear hF; intro a hF
   refine Vr hF (.int .i64 ((nE (some 1)))) (x_load (p := .pointer (some ⟨c, 2, none⟩)) rfl (by kernel_rfl) (run_load1 (by kernel_rfl) ((hO.cell List.mem_cons_self).trans (by kernel_rfl)))) ?_; clear hF; intro a hF
   refine Vr hF (.bool false) (x_bool (x := (nE (some 1) == 0)) (nE_eq (some 1)) (by kernel_rfl)) ?_; clear hF; intro a hF
   refine Vp hF (.bool false) ?_; clear hF; intro a hF
   refine Lo hF ?_; clear hF; intro a hF
   refine Lo hF ?_; clear hF; intro a hF
   refine Lo hF ?_; clear hF; intro a hF
   refine Vp hF (.bool false) ?_; clear hF; intro a hF
   refine L_nil ?_
   refine hK13 _ _ ?_
   refine cond_f hF (by kernel_rfl) (by kernel_rfl) ?_
   refine wp_skip ?_
   refine hK12 _ _ ?_
   refine wp_seq_k fun K14 hK14 => ?_
   refine wp_seq_k fun K15 hK15 => ?_
   refine wp_region_lit ?_
   refine Vp hF (.pointer (some ⟨c, 0, none⟩)) ?_; clear hF; intro a hF
   refine Vp hF (.pointer (some ⟨c, 0, none⟩)) ?_; clear hF; intro a hF
   refine Vp hF (.pointer (some ⟨c, 2, none⟩)) ?_; clear hF; intro a hF
   refine Vr hF (.int .i64 ((nE (some 1)))) (x_load (p := .pointer (some ⟨c, 2, none⟩)) rfl (by kernel_rfl) (run_load1 (by kernel_rfl) ((hO.cell List.mem_cons_self).trans (by kernel_rfl)))) ?_; clear hF; intro a hF
   refine Vr hF (.bool true) (x_bool (x := !(nE (some 1) == 0)) (nE_ne (some 1)) (by kernel_rfl)) ?_; clear hF; intro a hF
   refine L_nil ?_
   refine hK15 _ _ ?_
   refine cond_t hF (by kernel_rfl) (by kernel_rfl) ?_
   refine wp_seq_k fun K16 hK16 => ?_
   refine wp_region_lit ?_
   refine Vp hF (.agg #[.bool false, .int .u8 0, .int .u8 0, .int .u8 0, .int .u8 0, .int .u8 0, .int .u8 0, .int .u8 0, .int .u8 0, .int .u8 0, .int .u8 0, .int .u8 0, .int .u8 0, .int .u8 0, .int .u8 0, .int .u8 0, .int .u8 0, .int .i64 0]) ?_; clear hF; intro a hF
   obtain ⟨W13, hst, hO1⟩ := run_storeAt (P := Tryz.prog) (k := 18) (T := 68) (off := 0) (v := .agg #[.bool false, .int .u8 0, .int .u8 0, .int .u8 0, .int .u8 0, .int .u8 0, .int .u8 0, .int .u8 0, .int .u8 0, .int .u8 0, .int .u8 0, .int .u8 0, .int .u8 0, .int .u8 0, .int .u8 0, .int .u8 0, .int .u8 0, .int .i64 0]) (cs := #[.bool false, .int .u8 0, .int .u8 0, .int .u8 0, .int .u8 0, .int .u8 0, .int .u8 0, .int .u8 0, .int .u8 0, .int .u8 0, .int .u8 0, .int .u8 0, .int .u8 0, .int .u8 0, .int .u8 0, .int .u8 0, .int .u8 0, .int .i64 0]) (cs' := #[.bool false, .int .u8 0, .int .u8 0, .int .u8 0, .int .u8 0, .int .u8 0, .int .u8 0, .int .u8 0, .int .u8 0, .int .u8 0, .int .u8 0, .int .u8 0, .int .u8 0, .int .u8 0, .int .u8 0, .int .u8 0, .int .u8 0, .int .i64 0]) hO (by kernel_rfl) (by kernel_rfl) (by kernel_rfl) (Nat.le_of_ble_eq_true (by kernel_rfl)) (by kernel_rfl) (.tail (.tail (.head _)))
   refine L_skip hF (by kernel_rfl) (by kernel_rfl) (x_store (p := .pointer (some ⟨b1, 0, none⟩)) (v := .agg #[.bool false, .int .u8 0, .int .u8 0, .int .u8 0, .int .u8 0, .int .u8 0, .int .u8 0, .int .u8 0, .int .u8 0, .int .u8 0, .int .u8 0, .int .u8 0, .int .u8 0, .int .u8 0, .int .u8 0, .int .u8 0, .int .u8 0, .int .i64 0]) rfl (by kernel_rfl) (by kernel_rfl) hst) (by kernel_rfl) ?_
   clear hst hF; intro a hF; replace hO := hO1; clear hO1
   refine L_nil ?_
   refine hK16 _ _ ?_
   refine wp_ret ?_
   refine then_ret ?_
   refine ret1 hF (v := .agg #[.bool false, .int .u8 0, .int .u8 0, .int .u8 0, .int .u8 0, .int .u8 0, .int .u8 0, .int .u8 0, .int .u8 0, .int .u8 0, .int .u8 0, .int .u8 0, .int .u8 0, .int .u8 0, .int .u8 0, .int .u8 0, .int .u8 0, .int .i64 0]) rfl (resC (ad := ⟨b1, 0, none⟩) (by kernel_rfl) (run_loadA (k := 18) (by kernel_rfl) (by kernel_rfl) (hO.blk (List.mem_cons_of_mem _ (List.mem_cons_of_mem _ List.mem_cons_self))) (by kernel_rfl) (by kernel_rfl))) (by have hr : readCd l k = (noPt, ((readIp l k).2.1), (some 1)) := (by first | exact readCd_e (by assumption) | exact readCd_s (by assumption) (by assumption) | exact readCd_0 (by assumption) (by assumption) (by assumption) | exact readCd_ok (by assumption) (by assumption) (by assumption)); rw [hr]; exact ⟨rfl, hO.sub (.cons_cons _ (.cons _ (.cons _ (List.Sublist.refl _))))⟩) .ret (.inl rfl)
 ·
  replace hO := hO.front (.tail (.head _))
  refine Lc hF (rcur_Num1_err W0 _ c p cap l ((readIp l k).2.1) ((readIp l k).2.2) W4 hO hl (by omega) (by omega) (by omega) (by assumption)) ?_
  clear hF; rintro _ W14 a ⟨rfl, hk⟩ hF; replace hO := hk; clear hk
  refine Vp hF (.pointer (some ⟨b2, 17, none⟩)) ?_; clear hF; intro a hF
  obtain ⟨W15, hst, hO1⟩ := run_storeAt (P := Tryz.prog) (k := 1) (T := 3) (off := 17) (v := .int .i64 0) (cs := #[.bool (((readIp l k).1).six), .int .u8 ((((readIp l k).1).b0.toNat : Int)), .int .u8 ((((readIp l k).1).b1.toNat : Int)), .int .u8 ((((readIp l k).1).b2.toNat : Int)), .int .u8 ((((readIp l k).1).b3.toNat : Int)), .int .u8 ((((readIp l k).1).b4.toNat : Int)), .int .u8 ((((readIp l k).1).b5.toNat : Int)), .int .u8 ((((readIp l k).1).b6.toNat : Int)), .int .u8 ((((readIp l k).1).b7.toNat : Int)), .int .u8 ((((readIp l k).1).b8.toNat : Int)), .int .u8 ((((readIp l k).1).b9.toNat : Int)), .int .u8 ((((readIp l k).1).b10.toNat : Int)), .int .u8 ((((readIp l k).1).b11.toNat : Int)), .int .u8 ((((readIp l k).1).b12.toNat : Int)), .int .u8 ((((readIp l k).1).b13.toNat : Int)), .int .u8 ((((readIp l k).1).b14.toNat : Int)), .int .u8 ((((readIp l k).1).b15.toNat : Int)), .int .i64 0]) (cs' := #[.bool (((readIp l k).1).six), .int .u8 ((((readIp l k).1).b0.toNat : Int)), .int .u8 ((((readIp l k).1).b1.toNat : Int)), .int .u8 ((((readIp l k).1).b2.toNat : Int)), .int .u8 ((((readIp l k).1).b3.toNat : Int)), .int .u8 ((((readIp l k).1).b4.toNat : Int)), .int .u8 ((((readIp l k).1).b5.toNat : Int)), .int .u8 ((((readIp l k).1).b6.toNat : Int)), .int .u8 ((((readIp l k).1).b7.toNat : Int)), .int .u8 ((((readIp l k).1).b8.toNat : Int)), .int .u8 ((((readIp l k).1).b9.toNat : Int)), .int .u8 ((((readIp l k).1).b10.toNat : Int)), .int .u8 ((((readIp l k).1).b11.toNat : Int)), .int .u8 ((((readIp l k).1).b12.toNat : Int)), .int .u8 ((((readIp l k).1).b13.toNat : Int)), .int .u8 ((((readIp l k).1).b14.toNat : Int)), .int .u8 ((((readIp l k).1).b15.toNat : Int)), .int .i64 0]) hO (by kernel_rfl) (by kernel_rfl) (by kernel_rfl) (Nat.le_of_ble_eq_true (by kernel_rfl)) (by kernel_rfl) (.tail (.head _))
  refine L_skip hF (by kernel_rfl) (by kernel_rfl) (x_store (p := .pointer (some ⟨b2, 17, none⟩)) (v := .int .i64 0) rfl (by kernel_rfl) (by kernel_rfl) hst) (by kernel_rfl) ?_
  clear hst hF; intro a hF; replace hO := hO1; clear hO1
  refine L_nil ?_
  refine hK3 _ _ ?_
  refine wp_seq_k fun K17 hK17 => ?_
  refine wp_seq_k fun K18 hK18 => ?_
  refine wp_region_lit ?_
  refine Vp hF (.pointer (some ⟨c, 0, none⟩)) ?_; clear hF; intro a hF
  refine Vp hF (.pointer (some ⟨c, 0, none⟩)) ?_; clear hF; intro a hF
  refine Vp hF (.pointer (some ⟨c, 2, none⟩)) ?_; clear hF; intro a hF
  refine Vr hF (.int .i64 ((nE (readIp l k).2.2))) (x_load (p := .pointer (some ⟨c, 2, none⟩)) rfl (by kernel_rfl) (run_load1 (by kernel_rfl) ((hO.cell List.mem_cons_self).trans (by kernel_rfl)))) ?_; clear hF; intro a hF
  refine Vr hF (.bool (!((readIp l k).2.2.isSome))) (x_bool (x := (nE (readIp l k).2.2 == 0)) (nE_eq (readIp l k).2.2) (by kernel_rfl)) ?_; clear hF; intro a hF
  refine Vp hF (.bool (!((readIp l k).2.2.isSome))) ?_; clear hF; intro a hF
  replace hF := hF.know (d := 15) (v' := .bool false) (by kernel_rfl) (congrArg Value.bool (notF q1))
  refine Lo hF ?_; clear hF; intro a hF
  refine Lo hF ?_; clear hF; intro a hF
  refine Lo hF ?_; clear hF; intro a hF
  refine Vp hF (.bool false) ?_; clear hF; intro a hF
  refine L_nil ?_
  refine hK18 _ _ ?_
  refine cond_f hF (by kernel_rfl) (by kernel_rfl) ?_
  refine wp_skip ?_
  refine hK17 _ _ ?_
  refine wp_seq_k fun K19 hK19 => ?_
  refine wp_seq_k fun K20 hK20 => ?_
  refine wp_region_lit ?_
  refine Vp hF (.pointer (some ⟨c, 0, none⟩)) ?_; clear hF; intro a hF
  refine Vp hF (.pointer (some ⟨c, 0, none⟩)) ?_; clear hF; intro a hF
  refine Vp hF (.pointer (some ⟨c, 2, none⟩)) ?_; clear hF; intro a hF
  refine Vr hF (.int .i64 ((nE (readIp l k).2.2))) (x_load (p := .pointer (some ⟨c, 2, none⟩)) rfl (by kernel_rfl) (run_load1 (by kernel_rfl) ((hO.cell List.mem_cons_self).trans (by kernel_rfl)))) ?_; clear hF; intro a hF
  refine Vr hF (.bool ((readIp l k).2.2.isSome)) (x_bool (x := !(nE (readIp l k).2.2 == 0)) (nE_ne (readIp l k).2.2) (by kernel_rfl)) ?_; clear hF; intro a hF
  refine L_nil ?_
  refine hK20 _ _ ?_
  replace hF := hF.know (d := 27) (v' := .bool true) (by kernel_rfl) (congrArg Value.bool q1)
  refine cond_t hF (by kernel_rfl) (by kernel_rfl) ?_
  refine wp_seq_k fun K21 hK21 => ?_
  refine wp_region_lit ?_
  refine Vp hF (.agg #[.bool false, .int .u8 0, .int .u8 0, .int .u8 0, .int .u8 0, .int .u8 0, .int .u8 0, .int .u8 0, .int .u8 0, .int .u8 0, .int .u8 0, .int .u8 0, .int .u8 0, .int .u8 0, .int .u8 0, .int .u8 0, .int .u8 0, .int .i64 0]) ?_; clear hF; intro a hF
  obtain ⟨W16, hst, hO1⟩ := run_storeAt (P := Tryz.prog) (k := 18) (T := 68) (off := 0) (v := .agg #[.bool false, .int .u8 0, .int .u8 0, .int .u8 0, .int .u8 0, .int .u8 0, .int .u8 0, .int .u8 0, .int .u8 0, .int .u8 0, .int .u8 0, .int .u8 0, .int .u8 0, .int .u8 0, .int .u8 0, .int .u8 0, .int .u8 0, .int .i64 0]) (cs := #[.bool false, .int .u8 0, .int .u8 0, .int .u8 0, .int .u8 0, .int .u8 0, .int .u8 0, .int .u8 0, .int .u8 0, .int .u8 0, .int .u8 0, .int .u8 0, .int .u8 0, .int .u8 0, .int .u8 0, .int .u8 0, .int .u8 0, .int .i64 0]) (cs' := #[.bool false, .int .u8 0, .int .u8 0, .int .u8 0, .int .u8 0, .int .u8 0, .int .u8 0, .int .u8 0, .int .u8 0, .int .u8 0, .int .u8 0, .int .u8 0, .int .u8 0, .int .u8 0, .int .u8 0, .int .u8 0, .int .u8 0, .int .i64 0]) hO (by kernel_rfl) (by kernel_rfl) (by kernel_rfl) (Nat.le_of_ble_eq_true (by kernel_rfl)) (by kernel_rfl) (.tail (.tail (.head _)))
  refine L_skip hF (by kernel_rfl) (by kernel_rfl) (x_store (p := .pointer (some ⟨b1, 0, none⟩)) (v := .agg #[.bool false, .int .u8 0, .int .u8 0, .int .u8 0, .int .u8 0, .int .u8 0, .int .u8 0, .int .u8 0, .int .u8 0, .int .u8 0, .int .u8 0, .int .u8 0, .int .u8 0, .int .u8 0, .int .u8 0, .int .u8 0, .int .u8 0, .int .i64 0]) rfl (by kernel_rfl) (by kernel_rfl) hst) (by kernel_rfl) ?_
  clear hst hF; intro a hF; replace hO := hO1; clear hO1
  refine L_nil ?_
  refine hK21 _ _ ?_
  refine wp_ret ?_
  refine then_ret ?_
  refine ret1 hF (v := .agg #[.bool false, .int .u8 0, .int .u8 0, .int .u8 0, .int .u8 0, .int .u8 0, .int .u8 0, .int .u8 0, .int .u8 0, .int .u8 0, .int .u8 0, .int .u8 0, .int .u8 0, .int .u8 0, .int .u8 0, .int .u8 0, .int .u8 0, .int .i64 0]) rfl (resC (ad := ⟨b1, 0, none⟩) (by kernel_rfl) (run_loadA (k := 18) (by kernel_rfl) (by kernel_rfl) (hO.blk (List.mem_cons_of_mem _ (List.mem_cons_of_mem _ List.mem_cons_self))) (by kernel_rfl) (by kernel_rfl))) (by have hr : readCd l k = (noPt, ((readIp l k).2.1), (readIp l k).2.2) := (by first | exact readCd_e (by assumption) | exact readCd_s (by assumption) (by assumption) | exact readCd_0 (by assumption) (by assumption) (by assumption) | exact readCd_ok (by assumption) (by assumption) (by assumption)); rw [hr]; exact ⟨rfl, hO.sub (.cons_cons _ (.cons _ (.cons _ (List.Sublist.refl _))))⟩) .ret (.inl rfl)

set_option maxRecDepth 20000 in
theorem cur_End_ok (W0 : World) (L : List Chunk) (I : List Nat) (ea : Nat → Addr) (c : Nat) (p : Option Addr) (cap : Nat) (l : List UInt8) (k : Nat) (e : Option Nat) (W : World) (hO : Own W0 noX (.blk c (.cells #[.slice p l.length cap, .int .i64 ((k : Int)), eV ea e] 113 (0, 0)) :: rowL u8L 1 5 p cap l :: L) W) (hk : k ≤ l.length) (hsz : l.length ≤ 1000000) (hkl : k = l.length) (he : e = none) : Ret Tryz.prog 40 #[.pointer (some ⟨c, 0, none⟩)] W fun v W' => v = .nilIface ∧ Own W0 noX (.blk c (.cells #[.slice p l.length cap, .int .i64 ((k : Int)), eV ea e] 113 (0, 0)) :: rowL u8L 1 5 p cap l :: L) W' := by
 refine enter Tryz.func40 rfl (n := 18) rfl (by kernel_rfl) (E0 := [(0, .pointer (some ⟨c, 0, none⟩))]) (by kernel_rfl) ?_
 intro a hF; have hO := hO
 refine wp_seq_k fun K1 hK1 => ?_
 refine wp_region_lit ?_
 refine Vp hF (.nilIface) ?_; clear hF; intro a hF
 refine L_nil ?_
 refine hK1 _ _ ?_
 refine wp_seq_k fun K2 hK2 => ?_
 refine wp_seq_k fun K3 hK3 => ?_
 refine wp_region_lit ?_
 refine Vp hF (.pointer (some ⟨c, 0, none⟩)) ?_; clear hF; intro a hF
 refine Vp hF (.pointer (some ⟨c, 0, none⟩)) ?_; clear hF; intro a hF
 refine Vp hF (.pointer (some ⟨c, 2, none⟩)) ?_; clear hF; intro a hF
 refine Vr hF (eV ea e) (x_load (p := .pointer (some ⟨c, 2, none⟩)) rfl (by kernel_rfl) (run_load1 (by kernel_rfl) ((hO.cell List.mem_cons_self).trans (by kernel_rfl)))) ?_; clear hF; intro a hF
 refine Vr hF (.bool (!e.isSome)) (x_eVEq (ea := ea) (e := e) rfl (by kernel_rfl) (by kernel_rfl) (fun _ => by kernel_rfl) (by kernel_rfl)) ?_; clear hF; intro a hF
 refine Vp hF (.bool (!e.isSome)) ?_; clear hF; intro a hF
 replace hF := hF.know (d := 8) (v' := .bool true) (by kernel_rfl) (congrArg Value.bool (notT (show e.isSome = false from (by rw [he]; rfl))))
 refine Vp hF (.pointer (some ⟨c, 0, none⟩)) ?_; clear hF; intro a hF
 replace hO := hO.front (.tail (.head _))
 replace hO := hO.front (.tail (.head _))
 refine Lc hF (cur_Left W0 _ I ea c p cap l k e W hO (by omega) hsz) ?_
 clear hF; rintro _ W1 a ⟨rfl, hk⟩ hF; replace hO := hk; clear hk
 refine Vp hF (.bool (decide ((l.length : Int) - (k : Int) > 0))) ?_; clear hF; intro a hF
 refine Vp hF (.bool (decide ((l.length : Int) - (k : Int) > 0))) ?_; clear hF; intro a hF
 refine L_nil ?_
 refine hK3 _ _ ?_
 replace hF := hF.know (d := 12) (v' := .bool false) (by kernel_rfl) (congrArg Value.bool (decide_eq_false (show ¬ ((l.length : Int) - (k : Int) > 0) from (by omega))))
 refine cond_f hF (by kernel_rfl) (by kernel_rfl) ?_
 refine wp_skip ?_
 refine hK2 _ _ ?_
 refine wp_seq_k fun K4 hK4 => ?_
 refine wp_region_lit ?_
 refine Vp hF (.pointer (some ⟨c, 0, none⟩)) ?_; clear hF; intro a hF
 refine Vp hF (.pointer (some ⟨c, 0, none⟩)) ?_; clear hF; intro a hF
 refine Vp hF (.pointer (some ⟨c, 2, none⟩)) ?_; clear hF; intro a hF
 refine Vr hF (eV ea e) (x_load (p := .pointer (some ⟨c, 2, none⟩)) rfl (by kernel_rfl) (run_load1 (by kernel_rfl) ((hO.cell List.mem_cons_self).trans (by kernel_rfl)))) ?_; clear hF; intro a hF
 refine Vp hF (eV ea e) ?_; clear hF; intro a hF
 refine L_nil ?_
 refine hK4 _ _ ?_
 refine wp_ret ?_
 replace hO := hO.front (.tail (.head _))
 replace hO := hO.front (.tail (.head _))
 refine ret1 hF (v := eV ea e) rfl (resT (by kernel_rfl)) (by subst he; exact ⟨rfl, hO.sub (.cons_cons _ (.cons_cons _ (List.Sublist.refl _)))⟩) .ret (.inl rfl)

end Go.Proofs.YthellfigmpjhlaaGreatDoor
