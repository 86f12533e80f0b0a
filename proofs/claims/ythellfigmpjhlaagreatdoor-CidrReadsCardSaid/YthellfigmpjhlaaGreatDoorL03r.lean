import Derived.Test.YthellfigmpjhlaaGreatDoorReadC
namespace Go.Proofs.YthellfigmpjhlaaGreatDoor
open Go Go.RowKit
set_option linter.unusedVariables false
set_option linter.unusedSimpArgs false
set_option maxRecDepth 20000 in
theorem law_CidrReads (I : List Nat) (ea : Nat → Addr) (xp : Pt) (p : Option Addr) (cap : Nat) (l : List UInt8) (W : World) (hG : LibW W) (hE : Errs I ea W) (h3 : I.contains 3 = true) (h1 : I.contains 1 = true) (h6 : I.contains 6 = true) (h0 : I.contains 0 = true) (h7 : I.contains 7 = true) (hI : I = errIs) (hl : SlAt W p (l.flatMap u8L)) (hcap : l.length ≤ cap) : Ret Tryz.prog 12 #[ptV xp, .slice p l.length cap] W fun v W' => v = .bool true ∧ Own W noX [] W' := by
 have hat := readCd_in (l := l) (k := 0) (Nat.zero_le _)
 have her := readCd_b l 0
 have hpl := putCd_len xp
 have hat2 := readCd_in (l := putCd xp) (k := 0) (Nat.zero_le _)
 refine enter Tryz.func12 rfl (n := 64) rfl (by kernel_rfl) (E0 := [(1, .slice p l.length cap), (0, ptV xp)]) (by kernel_rfl) ?_
 intro a hF; have hO := Own.start W noX
 refine wp_seq_k fun K1 hK1 => ?_
 refine wp_region_lit ?_
 refine L_new hF hO (by kernel_rfl) (by kernel_rfl) (vf := fun b => .pointer (some ⟨b, 0, none⟩)) (ob := .cells #[.bool xp.ip.six, .int .u8 ((xp.ip.b0.toNat : Int)), .int .u8 ((xp.ip.b1.toNat : Int)), .int .u8 ((xp.ip.b2.toNat : Int)), .int .u8 ((xp.ip.b3.toNat : Int)), .int .u8 ((xp.ip.b4.toNat : Int)), .int .u8 ((xp.ip.b5.toNat : Int)), .int .u8 ((xp.ip.b6.toNat : Int)), .int .u8 ((xp.ip.b7.toNat : Int)), .int .u8 ((xp.ip.b8.toNat : Int)), .int .u8 ((xp.ip.b9.toNat : Int)), .int .u8 ((xp.ip.b10.toNat : Int)), .int .u8 ((xp.ip.b11.toNat : Int)), .int .u8 ((xp.ip.b12.toNat : Int)), .int .u8 ((xp.ip.b13.toNat : Int)), .int .u8 ((xp.ip.b14.toNat : Int)), .int .u8 ((xp.ip.b15.toNat : Int)), .int .i64 (xp.port)] 68) (by kernel_rfl) (by kernel_rfl) ?_
 clear hF hO; intro b1 W1 a hO hF
 refine Vp hF (.bool false) ?_; clear hF; intro a hF
 refine L_nil ?_
 refine hK1 _ _ ?_
 refine wp_seq_k fun K2 hK2 => ?_
 refine wp_seq_k fun K3 hK3 => ?_
 refine wp_region_lit ?_
 refine Lc hF (law03_alive I ea W1 (hG.own hO) (hE.own hO) h3 h0 h7) ?_
 clear hF; rintro _ W2 a ⟨rfl, hk⟩ hF
 replace hO := hO.call0 hk; clear hk
 refine Vp hF (.bool false) ?_; clear hF; intro a hF
 refine L_nil ?_
 refine hK3 _ _ ?_
 refine cond_f hF (by kernel_rfl) (by kernel_rfl) ?_
 refine wp_skip ?_
 refine hK2 _ _ ?_
 refine wp_seq_k fun K4 hK4 => ?_
 refine wp_seq_k fun K5 hK5 => ?_
 refine wp_region_lit ?_
 refine Vp hF (.slice p l.length cap) ?_; clear hF; intro a hF
 refine Vp hF (.int .i64 ((l.length : Int))) ?_; clear hF; intro a hF
 refine Vp hF (.bool (decide ((l.length : Int) > 100))) ?_; clear hF; intro a hF
 refine L_nil ?_
 refine hK5 _ _ ?_
 by_cases q1 : (l.length : Int) > 100
 ·
  replace hF := hF.know (d := 12) (v' := .bool true) (by kernel_rfl) (congrArg Value.bool (decide_eq_true q1))
  refine cond_t hF (by kernel_rfl) (by kernel_rfl) ?_
  refine wp_seq_k fun K6 hK6 => ?_
  refine wp_region_lit ?_
  refine Vp hF (.bool true) ?_; clear hF; intro a hF
  refine L_nil ?_
  refine hK6 _ _ ?_
  refine wp_ret ?_
  refine then_ret ?_
  refine ret1 hF (v := .bool true) rfl (resT (by kernel_rfl)) (by refine ⟨?_, hO.nil⟩; first | rfl | exact congrArg Value.bool (beq_self_eq_true _) | (exfalso; simp_all; done)) .ret (.inl rfl)
 ·
  replace hF := hF.know (d := 12) (v' := .bool false) (by kernel_rfl) (congrArg Value.bool (decide_eq_false q1))
  refine cond_f hF (by kernel_rfl) (by kernel_rfl) ?_
  refine wp_skip ?_
  refine hK4 _ _ ?_
  refine wp_seq_k fun K7 hK7 => ?_
  refine wp_seq_k fun K8 hK8 => ?_
  refine A_start (fun Wx => Own W noX [.blk b1 (.cells #[.bool xp.ip.six, .int .u8 ((xp.ip.b0.toNat : Int)), .int .u8 ((xp.ip.b1.toNat : Int)), .int .u8 ((xp.ip.b2.toNat : Int)), .int .u8 ((xp.ip.b3.toNat : Int)), .int .u8 ((xp.ip.b4.toNat : Int)), .int .u8 ((xp.ip.b5.toNat : Int)), .int .u8 ((xp.ip.b6.toNat : Int)), .int .u8 ((xp.ip.b7.toNat : Int)), .int .u8 ((xp.ip.b8.toNat : Int)), .int .u8 ((xp.ip.b9.toNat : Int)), .int .u8 ((xp.ip.b10.toNat : Int)), .int .u8 ((xp.ip.b11.toNat : Int)), .int .u8 ((xp.ip.b12.toNat : Int)), .int .u8 ((xp.ip.b13.toNat : Int)), .int .u8 ((xp.ip.b14.toNat : Int)), .int .u8 ((xp.ip.b15.toNat : Int)), .int .i64 (xp.port)] 68 (0, 0))] Wx) (by kernel_rfl) ?_
  replace hO := hO.drewN 1
  generalize hWd : ({ W2 with drawn := W2.drawn + 1 } : World) = W2_d at hO ⊢; clear hWd
  have hS := hO.sub (.cons_cons _ (List.nil_sublist _))
  refine Tk 0 rfl hF (.agg #[.bool xp.ip.six, .int .u8 ((xp.ip.b0.toNat : Int)), .int .u8 ((xp.ip.b1.toNat : Int)), .int .u8 ((xp.ip.b2.toNat : Int)), .int .u8 ((xp.ip.b3.toNat : Int)), .int .u8 ((xp.ip.b4.toNat : Int)), .int .u8 ((xp.ip.b5.toNat : Int)), .int .u8 ((xp.ip.b6.toNat : Int)), .int .u8 ((xp.ip.b7.toNat : Int)), .int .u8 ((xp.ip.b8.toNat : Int)), .int .u8 ((xp.ip.b9.toNat : Int)), .int .u8 ((xp.ip.b10.toNat : Int)), .int .u8 ((xp.ip.b11.toNat : Int)), .int .u8 ((xp.ip.b12.toNat : Int)), .int .u8 ((xp.ip.b13.toNat : Int)), .int .u8 ((xp.ip.b14.toNat : Int)), .int .u8 ((xp.ip.b15.toNat : Int)), .int .i64 (xp.port)]) (fun Wx hO => x_load (p := .pointer (some ⟨b1, 0, none⟩)) rfl (by kernel_rfl) (run_loadA (k := 18) (by kernel_rfl) (by kernel_rfl) (hO.blk List.mem_cons_self) (by kernel_rfl) (by kernel_rfl))) hS ?_; clear hF; intro a hF
  refine Tk 3 rfl hF (.agg #[.bool xp.ip.six, .int .u8 ((xp.ip.b0.toNat : Int)), .int .u8 ((xp.ip.b1.toNat : Int)), .int .u8 ((xp.ip.b2.toNat : Int)), .int .u8 ((xp.ip.b3.toNat : Int)), .int .u8 ((xp.ip.b4.toNat : Int)), .int .u8 ((xp.ip.b5.toNat : Int)), .int .u8 ((xp.ip.b6.toNat : Int)), .int .u8 ((xp.ip.b7.toNat : Int)), .int .u8 ((xp.ip.b8.toNat : Int)), .int .u8 ((xp.ip.b9.toNat : Int)), .int .u8 ((xp.ip.b10.toNat : Int)), .int .u8 ((xp.ip.b11.toNat : Int)), .int .u8 ((xp.ip.b12.toNat : Int)), .int .u8 ((xp.ip.b13.toNat : Int)), .int .u8 ((xp.ip.b14.toNat : Int)), .int .u8 ((xp.ip.b15.toNat : Int)), .int .i64 (xp.port)]) (fun Wx hO => x_load (p := .pointer (some ⟨b1, 0, none⟩)) rfl (by kernel_rfl) (run_loadA (k := 18) (by kernel_rfl) (by kernel_rfl) (hO.blk List.mem_cons_self) (by kernel_rfl) (by kernel_rfl))) hS ?_; clear hF; intro a hF
  refine A_one (i := 1) (listed' := #[true, true, false, true, false, false, false]) (by kernel_rfl) rfl (by kernel_rfl) ?_
  refine OpK.lc hF (cidr_Put xp W2_d) ?_
  clear hF; rintro _ W3 a ⟨q2, qc1, rfl, hk⟩ hF
  replace hO := hO.call1 hk; clear hk
  refine ⟨hO.sub (.cons _ (.cons_cons _ (List.nil_sublist _))), ?_⟩
  refine A_cut (fun a Wx => ∃ (q3 : Option Addr) (qc2 : Nat), Fr 64 a [(1, .slice p l.length cap), (2, .pointer (some ⟨b1, 0, none⟩)), (4, .bool false), (15, .string (⟨(putCd xp).toArray⟩ : ByteArray)), (18, .string (⟨(putCd xp).toArray⟩ : ByteArray))] ∧ Own W noX [rowL u8L 1 5 q3 qc2 (putCd xp), rowL u8L 1 5 q2 qc1 (putCd xp), .blk b1 (.cells #[.bool xp.ip.six, .int .u8 ((xp.ip.b0.toNat : Int)), .int .u8 ((xp.ip.b1.toNat : Int)), .int .u8 ((xp.ip.b2.toNat : Int)), .int .u8 ((xp.ip.b3.toNat : Int)), .int .u8 ((xp.ip.b4.toNat : Int)), .int .u8 ((xp.ip.b5.toNat : Int)), .int .u8 ((xp.ip.b6.toNat : Int)), .int .u8 ((xp.ip.b7.toNat : Int)), .int .u8 ((xp.ip.b8.toNat : Int)), .int .u8 ((xp.ip.b9.toNat : Int)), .int .u8 ((xp.ip.b10.toNat : Int)), .int .u8 ((xp.ip.b11.toNat : Int)), .int .u8 ((xp.ip.b12.toNat : Int)), .int .u8 ((xp.ip.b13.toNat : Int)), .int .u8 ((xp.ip.b14.toNat : Int)), .int .u8 ((xp.ip.b15.toNat : Int)), .int .i64 (xp.port)] 68 (0, 0))] Wx) (fuel := 1) (listed := #[true, true, true, true, true, true, false]) ?_ ?_
  ·
   clear hF hO; rintro a W5 ⟨q3, qc2, hF, hO⟩
   have hS := hO.sub (.cons _ (.cons _ (.cons_cons _ (List.nil_sublist _))))
   refine Tk 6 rfl hF (.bool false) (fun Wx _ => (x_bool (x := !(strEq (⟨(putCd xp).toArray⟩ : ByteArray) (⟨(putCd xp).toArray⟩ : ByteArray))) (notF (strEq_refl _)) (by kernel_rfl))) hS ?_; clear hF; intro a hF
   refine A_done (by kernel_rfl) ?_
   refine hK8 _ _ ?_
   refine cond_f hF (by kernel_rfl) (by kernel_rfl) ?_
   refine wp_skip ?_
   refine hK7 _ _ ?_
   refine wp_seq_k fun K9 hK9 => ?_
   refine wp_region_lit ?_
   refine Vp hF (.slice p l.length cap) ?_; clear hF; intro a hF
   refine Lc hF (oct_At (p) cap (l) W5 (hl.own hO) (by omega)) ?_
   clear hF; rintro _ W6 a ⟨c1, q4, qc3, rfl, hk⟩ hF
   replace hO := hO.call2 hk; clear hk
   refine Vp hF (.slice p l.length cap) ?_; clear hF; intro a hF
   refine Vp hF (.agg #[.slice p l.length cap, .int .i64 0, .int .i64 0]) ?_; clear hF; intro a hF
   refine L_new hF hO (by kernel_rfl) (by kernel_rfl) (vf := fun b => .pointer (some ⟨b, 0, none⟩)) (ob := .cells #[.slice p l.length cap, .int .i64 0, .int .i64 0] 52) (by kernel_rfl) (by kernel_rfl) ?_
   clear hF hO; intro b2 W7 a hO hF
   refine Vp hF (.pointer (some ⟨c1, 0, none⟩)) ?_; clear hF; intro a hF
   refine Vp hF (.pointer (some ⟨b2, 0, none⟩)) ?_; clear hF; intro a hF
   refine L_nil ?_
   refine hK9 _ _ ?_
   refine wp_seq_k fun K10 hK10 => ?_
   refine wp_seq_k fun K11 hK11 => ?_
   refine A_start (fun Wx => Own W noX [rowL u8L 1 5 q4 qc3 l, rowL u8L 1 5 q3 qc2 (putCd xp), rowL u8L 1 5 q2 qc1 (putCd xp), .blk b1 (.cells #[.bool xp.ip.six, .int .u8 ((xp.ip.b0.toNat : Int)), .int .u8 ((xp.ip.b1.toNat : Int)), .int .u8 ((xp.ip.b2.toNat : Int)), .int .u8 ((xp.ip.b3.toNat : Int)), .int .u8 ((xp.ip.b4.toNat : Int)), .int .u8 ((xp.ip.b5.toNat : Int)), .int .u8 ((xp.ip.b6.toNat : Int)), .int .u8 ((xp.ip.b7.toNat : Int)), .int .u8 ((xp.ip.b8.toNat : Int)), .int .u8 ((xp.ip.b9.toNat : Int)), .int .u8 ((xp.ip.b10.toNat : Int)), .int .u8 ((xp.ip.b11.toNat : Int)), .int .u8 ((xp.ip.b12.toNat : Int)), .int .u8 ((xp.ip.b13.toNat : Int)), .int .u8 ((xp.ip.b14.toNat : Int)), .int .u8 ((xp.ip.b15.toNat : Int)), .int .i64 (xp.port)] 68 (0, 0))] Wx) (by kernel_rfl) ?_
   replace hO := hO.drewN 1
   generalize hWd : ({ W7 with drawn := W7.drawn + 1 } : World) = W7_d at hO ⊢; clear hWd
   have hS := hO.sub (.cons _ (.cons _ (.cons_cons _ (.cons_cons _ (.cons_cons _ (.cons_cons _ (List.nil_sublist _)))))))
   refine Tk 0 rfl hF (.pointer (some ⟨c1, 0, none⟩)) (fun Wx _ => by kernel_rfl) hS ?_; clear hF; intro a hF
   refine Tk 2 rfl hF (.pointer (some ⟨b2, 0, none⟩)) (fun Wx _ => by kernel_rfl) hS ?_; clear hF; intro a hF
   refine A_one (i := 1) (listed' := #[true, true, true, false, false, false, false, false, false, false, false, false, false, false, false, false, false, false, false, false, false, false, false, false]) (by kernel_rfl) rfl (by kernel_rfl) ?_
   replace hO := hO.front (.tail (.tail (.head _)))
   replace hO := hO.front (.tail (.tail (.head _)))
   refine OpK.lc hF (cidr_Read W _ I ea c1 q4 qc3 l 0 none W7_d hO (by omega) (by omega) rfl hE h1 h6 h3 h0) ?_
   clear hF; rintro _ W8 a ⟨rfl, hk⟩ hF; replace hO := hk; clear hk
   replace hO := hO.front (.tail (.head _))
   replace hO := hO.unfront (.tail (.tail (.head _)))
   replace hO := hO.unfront (.tail (.head _))
   refine ⟨hO.sub (.cons _ (.cons _ (.cons_cons _ (.cons_cons _ (.cons_cons _ (.cons_cons _ (List.nil_sublist _))))))), ?_⟩
   refine A_one (i := 3) (listed' := #[true, true, true, true, false, false, false, false, false, false, false, false, false, false, false, false, false, false, false, false, false, false, false, false]) (by kernel_rfl) rfl (by kernel_rfl) ?_
   refine OpK.lc hF (rcidr_Read W _ b2 p cap l 0 none W8 hO hl (by omega) (by omega) (by omega) rfl) ?_
   clear hF; rintro _ W9 a ⟨rfl, hk⟩ hF; replace hO := hk; clear hk
   refine ⟨hO.sub (.cons _ (.cons _ (.cons_cons _ (.cons_cons _ (.cons_cons _ (.cons_cons _ (List.nil_sublist _))))))), ?_⟩
   have hS := hO.sub (.cons _ (.cons _ (.cons_cons _ (.cons_cons _ (.cons_cons _ (.cons_cons _ (List.nil_sublist _)))))))
   refine Tk 4 rfl hF (.bool false) (fun Wx _ => (x_bool (x := !(decide (((readCd l 0).1) = ((readCd l 0).1)))) (notF (decide_eq_true rfl)) (x_neCd (a := ((readCd l 0).1)) (b := ((readCd l 0).1)) rfl (by kernel_rfl) (by kernel_rfl)))) hS ?_; clear hF; intro a hF
   refine Tk 5 rfl hF (.bool false) (fun Wx _ => by kernel_rfl) hS ?_; clear hF; intro a hF
   refine Tk 6 rfl hF (.pointer (some ⟨c1, 0, none⟩)) (fun Wx _ => by kernel_rfl) hS ?_; clear hF; intro a hF
   refine Tk 8 rfl hF (.pointer (some ⟨b2, 0, none⟩)) (fun Wx _ => by kernel_rfl) hS ?_; clear hF; intro a hF
   refine Tk 9 rfl hF (.pointer (some ⟨b2, 0, none⟩)) (fun Wx _ => by kernel_rfl) hS ?_; clear hF; intro a hF
   refine Tk 10 rfl hF (.pointer (some ⟨b2, 1, none⟩)) (fun Wx _ => by kernel_rfl) hS ?_; clear hF; intro a hF
   refine A_cut (fun a Wx => Fr 64 a [(2, .pointer (some ⟨b1, 0, none⟩)), (4, .bool false), (5, .pointer (some ⟨c1, 0, none⟩)), (6, .pointer (some ⟨b2, 0, none⟩)), (30, .bool false), (32, .int .i64 (((readCd l 0).2.1 : Int))), (36, .int .i64 (((readCd l 0).2.1 : Int)))] ∧ Own W noX [.blk b2 (.cells #[.slice p l.length cap, .int .i64 (((readCd l 0).2.1 : Int)), .int .i64 ((nE (readCd l 0).2.2))] 52 (0, 0)), .blk c1 (.cells #[.slice q4 l.length qc3, .int .i64 (((readCd l 0).2.1 : Int)), eV ea ((readCd l 0).2.2)] 113 (0, 0)), rowL u8L 1 5 q4 qc3 l, rowL u8L 1 5 q3 qc2 (putCd xp), rowL u8L 1 5 q2 qc1 (putCd xp), .blk b1 (.cells #[.bool xp.ip.six, .int .u8 ((xp.ip.b0.toNat : Int)), .int .u8 ((xp.ip.b1.toNat : Int)), .int .u8 ((xp.ip.b2.toNat : Int)), .int .u8 ((xp.ip.b3.toNat : Int)), .int .u8 ((xp.ip.b4.toNat : Int)), .int .u8 ((xp.ip.b5.toNat : Int)), .int .u8 ((xp.ip.b6.toNat : Int)), .int .u8 ((xp.ip.b7.toNat : Int)), .int .u8 ((xp.ip.b8.toNat : Int)), .int .u8 ((xp.ip.b9.toNat : Int)), .int .u8 ((xp.ip.b10.toNat : Int)), .int .u8 ((xp.ip.b11.toNat : Int)), .int .u8 ((xp.ip.b12.toNat : Int)), .int .u8 ((xp.ip.b13.toNat : Int)), .int .u8 ((xp.ip.b14.toNat : Int)), .int .u8 ((xp.ip.b15.toNat : Int)), .int .i64 (xp.port)] 68 (0, 0))] Wx) (fuel := 12) (listed := #[true, true, true, true, true, true, true, true, true, true, true, true, false, false, false, false, false, false, false, false, false, false, false, false]) ?_ ?_
   ·
    clear hF hO; rintro a W11 ⟨hF, hO⟩
    have hS := hO.sub (.cons _ (.cons _ (.cons_cons _ (.cons_cons _ (.cons_cons _ (.cons_cons _ (List.nil_sublist _)))))))
    refine Tk 12 rfl hF (.bool false) (fun Wx _ => (x_bool (x := !(((readCd l 0).2.1 : Int) == ((readCd l 0).2.1 : Int))) (notF (beq_self_eq_true _)) (by kernel_rfl))) hS ?_; clear hF; intro a hF
    refine Tk 13 rfl hF (.bool false) (fun Wx _ => by kernel_rfl) hS ?_; clear hF; intro a hF
    refine Tk 14 rfl hF (.bool false) (fun Wx _ => by kernel_rfl) hS ?_; clear hF; intro a hF
    refine Tk 15 rfl hF (.pointer (some ⟨c1, 0, none⟩)) (fun Wx _ => by kernel_rfl) hS ?_; clear hF; intro a hF
    refine Tk 18 rfl hF (.pointer (some ⟨b2, 0, none⟩)) (fun Wx _ => by kernel_rfl) hS ?_; clear hF; intro a hF
    refine Tk 19 rfl hF (.pointer (some ⟨b2, 0, none⟩)) (fun Wx _ => by kernel_rfl) hS ?_; clear hF; intro a hF
    refine Tk 20 rfl hF (.pointer (some ⟨b2, 2, none⟩)) (fun Wx _ => by kernel_rfl) hS ?_; clear hF; intro a hF
    refine A_cut (fun a Wx => Fr 64 a [(2, .pointer (some ⟨b1, 0, none⟩)), (4, .bool false), (39, .bool false), (42, .int .i64 ((nE ((readCd l 0).2.2)))), (46, .int .i64 ((nE (readCd l 0).2.2)))] ∧ Own W noX [.blk b2 (.cells #[.slice p l.length cap, .int .i64 (((readCd l 0).2.1 : Int)), .int .i64 ((nE (readCd l 0).2.2))] 52 (0, 0)), .blk c1 (.cells #[.slice q4 l.length qc3, .int .i64 (((readCd l 0).2.1 : Int)), eV ea ((readCd l 0).2.2)] 113 (0, 0)), rowL u8L 1 5 q4 qc3 l, rowL u8L 1 5 q3 qc2 (putCd xp), rowL u8L 1 5 q2 qc1 (putCd xp), .blk b1 (.cells #[.bool xp.ip.six, .int .u8 ((xp.ip.b0.toNat : Int)), .int .u8 ((xp.ip.b1.toNat : Int)), .int .u8 ((xp.ip.b2.toNat : Int)), .int .u8 ((xp.ip.b3.toNat : Int)), .int .u8 ((xp.ip.b4.toNat : Int)), .int .u8 ((xp.ip.b5.toNat : Int)), .int .u8 ((xp.ip.b6.toNat : Int)), .int .u8 ((xp.ip.b7.toNat : Int)), .int .u8 ((xp.ip.b8.toNat : Int)), .int .u8 ((xp.ip.b9.toNat : Int)), .int .u8 ((xp.ip.b10.toNat : Int)), .int .u8 ((xp.ip.b11.toNat : Int)), .int .u8 ((xp.ip.b12.toNat : Int)), .int .u8 ((xp.ip.b13.toNat : Int)), .int .u8 ((xp.ip.b14.toNat : Int)), .int .u8 ((xp.ip.b15.toNat : Int)), .int .i64 (xp.port)] 68 (0, 0))] Wx) (fuel := 2) (listed := #[true, true, true, true, true, true, true, true, true, true, true, true, true, true, true, true, true, true, true, true, true, true, false, false]) ?_ ?_
    ·
     clear hF hO; rintro a W15 ⟨hF, hO⟩
     have hS := hO.sub (.cons _ (.cons _ (.cons_cons _ (.cons_cons _ (.cons_cons _ (.cons_cons _ (List.nil_sublist _)))))))
     refine Tk 22 rfl hF (.bool (!((nE ((readCd l 0).2.2)) == (nE (readCd l 0).2.2)))) (fun Wx _ => by kernel_rfl) hS ?_; clear hF; intro a hF
     refine Tk 23 rfl hF (.bool (!((nE ((readCd l 0).2.2)) == (nE (readCd l 0).2.2)))) (fun Wx _ => by kernel_rfl) hS ?_; clear hF; intro a hF
     refine A_done (by kernel_rfl) ?_
     refine hK11 _ _ ?_
     by_cases q5 : (nE ((readCd l 0).2.2)) = (nE (readCd l 0).2.2)
     ·
      replace hF := hF.know (d := 48) (v' := .bool false) (by kernel_rfl) (congrArg Value.bool (neF (not_not_intro q5)))
      refine cond_f hF (by kernel_rfl) (by kernel_rfl) ?_
      refine wp_skip ?_
      refine hK10 _ _ ?_
      refine wp_seq_k fun K12 hK12 => ?_
      refine wp_seq_k fun K13 hK13 => ?_
      refine wp_region_lit ?_
      refine Vr hF (.agg #[.bool xp.ip.six, .int .u8 ((xp.ip.b0.toNat : Int)), .int .u8 ((xp.ip.b1.toNat : Int)), .int .u8 ((xp.ip.b2.toNat : Int)), .int .u8 ((xp.ip.b3.toNat : Int)), .int .u8 ((xp.ip.b4.toNat : Int)), .int .u8 ((xp.ip.b5.toNat : Int)), .int .u8 ((xp.ip.b6.toNat : Int)), .int .u8 ((xp.ip.b7.toNat : Int)), .int .u8 ((xp.ip.b8.toNat : Int)), .int .u8 ((xp.ip.b9.toNat : Int)), .int .u8 ((xp.ip.b10.toNat : Int)), .int .u8 ((xp.ip.b11.toNat : Int)), .int .u8 ((xp.ip.b12.toNat : Int)), .int .u8 ((xp.ip.b13.toNat : Int)), .int .u8 ((xp.ip.b14.toNat : Int)), .int .u8 ((xp.ip.b15.toNat : Int)), .int .i64 (xp.port)]) (x_load (p := .pointer (some ⟨b1, 0, none⟩)) rfl (by kernel_rfl) (run_loadA (k := 18) (by kernel_rfl) (by kernel_rfl) (hO.blk (List.mem_cons_of_mem _ (List.mem_cons_of_mem _ (List.mem_cons_of_mem _ (List.mem_cons_of_mem _ (List.mem_cons_of_mem _ List.mem_cons_self)))))) (by kernel_rfl) (by kernel_rfl))) ?_; clear hF; intro a hF
      refine Lc hF (ref03_Right xp W15) ?_
      clear hF; rintro _ W16 a ⟨rfl, hk⟩ hF
      replace hO := hO.call0 hk; clear hk
      refine Vp hF (.bool (!(rightCd xp))) ?_; clear hF; intro a hF
      refine L_nil ?_
      refine hK13 _ _ ?_
      cases q6 : (rightCd xp : Bool)
      ·
       replace hF := hF.know (d := 51) (v' := .bool true) (by kernel_rfl) (congrArg Value.bool (notT q6))
       refine cond_t hF (by kernel_rfl) (by kernel_rfl) ?_
       refine wp_seq_k fun K14 hK14 => ?_
       refine wp_region_lit ?_
       refine Vp hF (.bool true) ?_; clear hF; intro a hF
       refine L_nil ?_
       refine hK14 _ _ ?_
       refine wp_ret ?_
       refine then_ret ?_
       refine ret1 hF (v := .bool true) rfl (resT (by kernel_rfl)) (by refine ⟨?_, hO.nil⟩; first | rfl | exact congrArg Value.bool (beq_self_eq_true _) | (exfalso; simp_all; done)) .ret (.inl rfl)
      ·
       replace hF := hF.know (d := 51) (v' := .bool false) (by kernel_rfl) (congrArg Value.bool (notF q6))
       refine cond_f hF (by kernel_rfl) (by kernel_rfl) ?_
       refine wp_skip ?_
       refine hK12 _ _ ?_
       refine wp_seq_k fun K15 hK15 => ?_
       refine wp_region_lit ?_
       refine Vr hF (.agg #[.bool xp.ip.six, .int .u8 ((xp.ip.b0.toNat : Int)), .int .u8 ((xp.ip.b1.toNat : Int)), .int .u8 ((xp.ip.b2.toNat : Int)), .int .u8 ((xp.ip.b3.toNat : Int)), .int .u8 ((xp.ip.b4.toNat : Int)), .int .u8 ((xp.ip.b5.toNat : Int)), .int .u8 ((xp.ip.b6.toNat : Int)), .int .u8 ((xp.ip.b7.toNat : Int)), .int .u8 ((xp.ip.b8.toNat : Int)), .int .u8 ((xp.ip.b9.toNat : Int)), .int .u8 ((xp.ip.b10.toNat : Int)), .int .u8 ((xp.ip.b11.toNat : Int)), .int .u8 ((xp.ip.b12.toNat : Int)), .int .u8 ((xp.ip.b13.toNat : Int)), .int .u8 ((xp.ip.b14.toNat : Int)), .int .u8 ((xp.ip.b15.toNat : Int)), .int .i64 (xp.port)]) (x_load (p := .pointer (some ⟨b1, 0, none⟩)) rfl (by kernel_rfl) (run_loadA (k := 18) (by kernel_rfl) (by kernel_rfl) (hO.blk (List.mem_cons_of_mem _ (List.mem_cons_of_mem _ (List.mem_cons_of_mem _ (List.mem_cons_of_mem _ (List.mem_cons_of_mem _ List.mem_cons_self)))))) (by kernel_rfl) (by kernel_rfl))) ?_; clear hF; intro a hF
       refine Lc hF (cidr_Put xp W16) ?_
       clear hF; rintro _ W17 a ⟨q7, qc4, rfl, hk⟩ hF
       replace hO := hO.call1 hk; clear hk
       refine Lc hF (oct_At (q7) qc4 (putCd xp) W17 (hO.row List.mem_cons_self) (by omega)) ?_
       clear hF; rintro _ W18 a ⟨c2, q8, qc5, rfl, hk⟩ hF
       replace hO := hO.call2 hk; clear hk
       refine Vp hF (.pointer (some ⟨c2, 0, none⟩)) ?_; clear hF; intro a hF
       refine L_nil ?_
       refine hK15 _ _ ?_
       refine wp_seq_k fun K16 hK16 => ?_
       refine A_start (fun Wx => Own W noX [rowL u8L 1 5 q8 qc5 (putCd xp), rowL u8L 1 5 q7 qc4 (putCd xp), rowL u8L 1 5 q4 qc3 l, rowL u8L 1 5 q3 qc2 (putCd xp), rowL u8L 1 5 q2 qc1 (putCd xp), .blk b1 (.cells #[.bool xp.ip.six, .int .u8 ((xp.ip.b0.toNat : Int)), .int .u8 ((xp.ip.b1.toNat : Int)), .int .u8 ((xp.ip.b2.toNat : Int)), .int .u8 ((xp.ip.b3.toNat : Int)), .int .u8 ((xp.ip.b4.toNat : Int)), .int .u8 ((xp.ip.b5.toNat : Int)), .int .u8 ((xp.ip.b6.toNat : Int)), .int .u8 ((xp.ip.b7.toNat : Int)), .int .u8 ((xp.ip.b8.toNat : Int)), .int .u8 ((xp.ip.b9.toNat : Int)), .int .u8 ((xp.ip.b10.toNat : Int)), .int .u8 ((xp.ip.b11.toNat : Int)), .int .u8 ((xp.ip.b12.toNat : Int)), .int .u8 ((xp.ip.b13.toNat : Int)), .int .u8 ((xp.ip.b14.toNat : Int)), .int .u8 ((xp.ip.b15.toNat : Int)), .int .i64 (xp.port)] 68 (0, 0))] Wx) (by kernel_rfl) ?_
       replace hO := hO.drewN 1
       generalize hWd : ({ W18 with drawn := W18.drawn + 1 } : World) = W18_d at hO ⊢; clear hWd
       have hS := hO.sub (.cons _ (.cons_cons _ (.cons_cons _ (.cons _ (.cons _ (.cons_cons _ (.cons_cons _ (.cons_cons _ (.cons_cons _ (List.nil_sublist _))))))))))
       refine Tk 0 rfl hF (.pointer (some ⟨c2, 0, none⟩)) (fun Wx _ => by kernel_rfl) hS ?_; clear hF; intro a hF
       refine Tk 2 rfl hF (.agg #[.bool xp.ip.six, .int .u8 ((xp.ip.b0.toNat : Int)), .int .u8 ((xp.ip.b1.toNat : Int)), .int .u8 ((xp.ip.b2.toNat : Int)), .int .u8 ((xp.ip.b3.toNat : Int)), .int .u8 ((xp.ip.b4.toNat : Int)), .int .u8 ((xp.ip.b5.toNat : Int)), .int .u8 ((xp.ip.b6.toNat : Int)), .int .u8 ((xp.ip.b7.toNat : Int)), .int .u8 ((xp.ip.b8.toNat : Int)), .int .u8 ((xp.ip.b9.toNat : Int)), .int .u8 ((xp.ip.b10.toNat : Int)), .int .u8 ((xp.ip.b11.toNat : Int)), .int .u8 ((xp.ip.b12.toNat : Int)), .int .u8 ((xp.ip.b13.toNat : Int)), .int .u8 ((xp.ip.b14.toNat : Int)), .int .u8 ((xp.ip.b15.toNat : Int)), .int .i64 (xp.port)]) (fun Wx hO => x_load (p := .pointer (some ⟨b1, 0, none⟩)) rfl (by kernel_rfl) (run_loadA (k := 18) (by kernel_rfl) (by kernel_rfl) (hO.blk (List.mem_cons_of_mem _ (List.mem_cons_of_mem _ (List.mem_cons_of_mem _ (List.mem_cons_of_mem _ (List.mem_cons_of_mem _ List.mem_cons_self)))))) (by kernel_rfl) (by kernel_rfl))) hS ?_; clear hF; intro a hF
       refine A_one (i := 1) (listed' := #[true, true, true, false, false, false, false, false, false, false]) (by kernel_rfl) rfl (by kernel_rfl) ?_
       replace hO := hO.front (.tail (.head _))
       replace hO := hO.front (.tail (.head _))
       refine OpK.lc hF (cidr_Read W _ I ea c2 q8 qc5 (putCd xp) 0 none W18_d hO (by omega) (by omega) rfl hE h1 h6 h3 h0) ?_
       clear hF; rintro _ W19 a ⟨rfl, hk⟩ hF; replace hO := hk; clear hk
       replace hO := hO.front (.tail (.head _))
       replace hO := hO.unfront (.tail (.head _))
       refine ⟨hO.sub (.cons _ (.cons_cons _ (.cons_cons _ (.cons _ (.cons _ (.cons_cons _ (.cons_cons _ (.cons_cons _ (.cons_cons _ (List.nil_sublist _)))))))))), ?_⟩
       have hS := hO.sub (.cons _ (.cons_cons _ (.cons_cons _ (.cons _ (.cons _ (.cons_cons _ (.cons_cons _ (.cons_cons _ (.cons_cons _ (List.nil_sublist _))))))))))
       refine Tk 3 rfl hF (.bool (decide (((readCd (putCd xp) 0).1) = xp))) (fun Wx _ => (x_eqCd (a := ((readCd (putCd xp) 0).1)) (b := xp) rfl (by kernel_rfl) (by kernel_rfl))) hS ?_; clear hF; intro a hF
       refine Tk 4 rfl hF (.bool (decide (((readCd (putCd xp) 0).1) = xp))) (fun Wx _ => by kernel_rfl) hS ?_; clear hF; intro a hF
       replace hF := hF.know (d := 59) (v' := .bool true) (by kernel_rfl) (congrArg Value.bool (decide_eq_true (show ((readCd (putCd xp) 0).1) = xp from (by rw [readCd_back xp (by assumption)]))))
       refine Tk 5 rfl hF (.pointer (some ⟨c2, 0, none⟩)) (fun Wx _ => by kernel_rfl) hS ?_; clear hF; intro a hF
       refine A_one (i := 6) (listed' := #[true, true, true, true, true, true, true, false, false, false]) (by kernel_rfl) rfl (by kernel_rfl) ?_
       replace hO := hO.front (.tail (.head _))
       replace hO := hO.front (.tail (.head _))
       refine OpK.lc hF (cur_End_ok W _ I ea c2 q8 qc5 (putCd xp) ((readCd (putCd xp) 0).2.1) ((readCd (putCd xp) 0).2.2) W19 hO (by exact hat2) (by omega) (by rw [readCd_back xp (by assumption)]) (by rw [readCd_back xp (by assumption)])) ?_
       clear hF; rintro _ W20 a ⟨rfl, hk⟩ hF; replace hO := hk; clear hk
       replace hO := hO.front (.tail (.head _))
       replace hO := hO.unfront (.tail (.head _))
       refine ⟨hO.sub (.cons _ (.cons_cons _ (.cons_cons _ (.cons _ (.cons _ (.cons_cons _ (.cons_cons _ (.cons_cons _ (.cons_cons _ (List.nil_sublist _)))))))))), ?_⟩
       have hS := hO.sub (.cons _ (.cons_cons _ (.cons_cons _ (.cons _ (.cons _ (.cons_cons _ (.cons_cons _ (.cons_cons _ (.cons_cons _ (List.nil_sublist _))))))))))
       refine Tk 7 rfl hF (.bool true) (fun Wx _ => by kernel_rfl) hS ?_; clear hF; intro a hF
       refine Tk 8 rfl hF (.bool true) (fun Wx _ => by kernel_rfl) hS ?_; clear hF; intro a hF
       refine Tk 9 rfl hF (.bool true) (fun Wx _ => by kernel_rfl) hS ?_; clear hF; intro a hF
       refine A_done (by kernel_rfl) ?_
       refine hK16 _ _ ?_
       refine wp_ret ?_
       refine ret1 hF (v := .bool true) rfl (resT (by kernel_rfl)) (by refine ⟨?_, hO.nil⟩; first | rfl | exact congrArg Value.bool (beq_self_eq_true _) | (exfalso; simp_all; done)) .ret (.inl rfl)
     ·
      replace hF := hF.know (d := 48) (v' := .bool true) (by kernel_rfl) (congrArg Value.bool (neT q5))
      refine cond_t hF (by kernel_rfl) (by kernel_rfl) ?_
      refine wp_seq_k fun K17 hK17 => ?_
      refine wp_region_lit ?_
      refine Vp hF (.bool false) ?_; clear hF; intro a hF
      refine L_nil ?_
      refine hK17 _ _ ?_
      refine wp_ret ?_
      refine then_ret ?_
      refine ret1 hF (v := .bool false) rfl (resT (by kernel_rfl)) (by refine ⟨?_, hO.nil⟩; first | rfl | exact congrArg Value.bool (beq_self_eq_true _) | (exfalso; simp_all; done)) .ret (.inl rfl)
    ·
     intro hcut4
     refine A_many [16, 21] (by kernel_rfl) rfl ⟨?_, ?_, trivial⟩
     ·
      refine A_br (listed' := #[true, true, true, true, true, true, true, true, true, true, true, true, true, true, true, true, true, false, true, true, true, false, false, false]) rfl (by kernel_rfl) ?_
      replace hO := hO.front (.tail (.tail (.head _)))
      replace hO := hO.front (.tail (.tail (.head _)))
      refine OpK.lc hF (cur_Err W _ I ea c1 q4 qc3 l ((readCd l 0).2.1) ((readCd l 0).2.2) W11 hO (by omega) (by omega)) ?_
      clear hF; rintro _ W21 a ⟨rfl, hk⟩ hF; replace hO := hk; clear hk
      refine ⟨hO.sub (.cons _ (.cons_cons _ (.cons _ (.cons_cons _ (.cons_cons _ (.cons_cons _ (List.nil_sublist _))))))), ?_⟩
      refine A_cut (fun a Wx => Fr 64 a [(2, .pointer (some ⟨b1, 0, none⟩)), (4, .bool false), (39, .bool false), (42, .int .i64 ((nE ((readCd l 0).2.2)))), (46, .int .i64 ((nE (readCd l 0).2.2)))] ∧ Own W noX [.blk c1 (.cells #[.slice q4 l.length qc3, .int .i64 (((readCd l 0).2.1 : Int)), eV ea ((readCd l 0).2.2)] 113 (0, 0)), rowL u8L 1 5 q4 qc3 l, .blk b2 (.cells #[.slice p l.length cap, .int .i64 (((readCd l 0).2.1 : Int)), .int .i64 ((nE (readCd l 0).2.2))] 52 (0, 0)), rowL u8L 1 5 q3 qc2 (putCd xp), rowL u8L 1 5 q2 qc1 (putCd xp), .blk b1 (.cells #[.bool xp.ip.six, .int .u8 ((xp.ip.b0.toNat : Int)), .int .u8 ((xp.ip.b1.toNat : Int)), .int .u8 ((xp.ip.b2.toNat : Int)), .int .u8 ((xp.ip.b3.toNat : Int)), .int .u8 ((xp.ip.b4.toNat : Int)), .int .u8 ((xp.ip.b5.toNat : Int)), .int .u8 ((xp.ip.b6.toNat : Int)), .int .u8 ((xp.ip.b7.toNat : Int)), .int .u8 ((xp.ip.b8.toNat : Int)), .int .u8 ((xp.ip.b9.toNat : Int)), .int .u8 ((xp.ip.b10.toNat : Int)), .int .u8 ((xp.ip.b11.toNat : Int)), .int .u8 ((xp.ip.b12.toNat : Int)), .int .u8 ((xp.ip.b13.toNat : Int)), .int .u8 ((xp.ip.b14.toNat : Int)), .int .u8 ((xp.ip.b15.toNat : Int)), .int .i64 (xp.port)] 68 (0, 0))] Wx) (fuel := 2) (listed := #[true, true, true, true, true, true, true, true, true, true, true, true, true, true, true, true, true, true, true, true, true, true, false, false]) ?_ ?_
      ·
       clear hF hO; rintro a W23 ⟨hF, hO⟩
       replace hO := hO.front (.tail (.tail (.head _)))
       refine A_norm (listed' := #[true, true, true, true, true, true, true, true, true, true, true, true, true, true, true, true, true, true, true, true, true, true, false, false]) (by kernel_rfl) (hcut4 _ _ ⟨hF.restrict ⟨(by kernel_rfl), (by kernel_rfl), (by kernel_rfl), (by kernel_rfl), (by kernel_rfl), trivial⟩, (hO.sub (.cons_cons _ (.cons_cons _ (.cons_cons _ (.cons_cons _ (.cons_cons _ (.cons_cons _ (List.nil_sublist _))))))))⟩)
      ·
       intro hcut5
       refine A_many [17, 21] (by kernel_rfl) rfl ⟨?_, ?_, trivial⟩
       ·
        refine A_br (listed' := #[true, true, true, true, true, true, true, true, true, true, true, true, true, true, true, true, true, true, true, true, true, false, false, false]) rfl (by kernel_rfl) ?_
        refine OpK.lc hF (num_eV ea ((readCd l 0).2.2) W21 (hI ▸ hE.own hO) (by exact her)) ?_
        clear hF; rintro _ W24 a ⟨rfl, hk⟩ hF
        replace hO := hO.call0 hk; clear hk
        refine ⟨hO.sub (.cons _ (.cons_cons _ (.cons _ (.cons_cons _ (.cons_cons _ (.cons_cons _ (List.nil_sublist _))))))), ?_⟩
        refine A_one (i := 21) (listed' := #[true, true, true, true, true, true, true, true, true, true, true, true, true, true, true, true, true, true, true, true, true, true, false, false]) (by kernel_rfl) rfl (by kernel_rfl) ?_
        refine OpK.vr hF (.int .i64 ((nE (readCd l 0).2.2))) (x_load (p := .pointer (some ⟨b2, 2, none⟩)) rfl (by kernel_rfl) (run_load1 (by kernel_rfl) ((hO.cell (List.mem_cons_of_mem _ (List.mem_cons_of_mem _ List.mem_cons_self))).trans (by kernel_rfl)))) ?_; clear hF; intro a hF
        refine ⟨hO.sub (.cons _ (.cons_cons _ (.cons _ (.cons_cons _ (.cons_cons _ (.cons_cons _ (List.nil_sublist _))))))), ?_⟩
        refine A_norm (listed' := #[true, true, true, true, true, true, true, true, true, true, true, true, true, true, true, true, true, true, true, true, true, true, false, false]) (by kernel_rfl) (hcut5 _ _ ⟨hF.restrict ⟨(by kernel_rfl), (by kernel_rfl), (by kernel_rfl), (by kernel_rfl), (by kernel_rfl), trivial⟩, (hO.sub (.cons_cons _ (.cons_cons _ (.cons_cons _ (.cons_cons _ (.cons_cons _ (.cons_cons _ (List.nil_sublist _))))))))⟩)
       ·
        refine A_br (listed' := #[true, true, true, true, true, true, true, true, true, true, true, true, true, true, true, true, true, false, true, true, true, true, false, false]) rfl (by kernel_rfl) ?_
        refine OpK.vr hF (.int .i64 ((nE (readCd l 0).2.2))) (x_load (p := .pointer (some ⟨b2, 2, none⟩)) rfl (by kernel_rfl) (run_load1 (by kernel_rfl) ((hO.cell (List.mem_cons_of_mem _ (List.mem_cons_of_mem _ List.mem_cons_self))).trans (by kernel_rfl)))) ?_; clear hF; intro a hF
        refine ⟨hO.sub (.cons _ (.cons_cons _ (.cons _ (.cons_cons _ (.cons_cons _ (.cons_cons _ (List.nil_sublist _))))))), ?_⟩
        refine A_one (i := 17) (listed' := #[true, true, true, true, true, true, true, true, true, true, true, true, true, true, true, true, true, true, true, true, true, true, false, false]) (by kernel_rfl) rfl (by kernel_rfl) ?_
        refine OpK.lc hF (num_eV ea ((readCd l 0).2.2) W21 (hI ▸ hE.own hO) (by exact her)) ?_
        clear hF; rintro _ W25 a ⟨rfl, hk⟩ hF
        replace hO := hO.call0 hk; clear hk
        refine ⟨hO.sub (.cons _ (.cons_cons _ (.cons _ (.cons_cons _ (.cons_cons _ (.cons_cons _ (List.nil_sublist _))))))), ?_⟩
        refine A_norm (listed' := #[true, true, true, true, true, true, true, true, true, true, true, true, true, true, true, true, true, true, true, true, true, true, false, false]) (by kernel_rfl) (hcut5 _ _ ⟨hF.restrict ⟨(by kernel_rfl), (by kernel_rfl), (by kernel_rfl), (by kernel_rfl), (by kernel_rfl), trivial⟩, (hO.sub (.cons_cons _ (.cons_cons _ (.cons_cons _ (.cons_cons _ (.cons_cons _ (.cons_cons _ (List.nil_sublist _))))))))⟩)
     ·
      refine A_br (listed' := #[true, true, true, true, true, true, true, true, true, true, true, true, true, true, true, true, false, false, true, true, true, true, false, false]) rfl (by kernel_rfl) ?_
      refine OpK.vr hF (.int .i64 ((nE (readCd l 0).2.2))) (x_load (p := .pointer (some ⟨b2, 2, none⟩)) rfl (by kernel_rfl) (run_load1 (by kernel_rfl) ((hO.cell List.mem_cons_self).trans (by kernel_rfl)))) ?_; clear hF; intro a hF
      refine ⟨hO.sub (.cons _ (.cons _ (.cons_cons _ (.cons_cons _ (.cons_cons _ (.cons_cons _ (List.nil_sublist _))))))), ?_⟩
      refine A_one (i := 16) (listed' := #[true, true, true, true, true, true, true, true, true, true, true, true, true, true, true, true, true, false, true, true, true, true, false, false]) (by kernel_rfl) rfl (by kernel_rfl) ?_
      replace hO := hO.front (.tail (.tail (.head _)))
      replace hO := hO.front (.tail (.tail (.head _)))
      refine OpK.lc hF (cur_Err W _ I ea c1 q4 qc3 l ((readCd l 0).2.1) ((readCd l 0).2.2) W11 hO (by omega) (by omega)) ?_
      clear hF; rintro _ W26 a ⟨rfl, hk⟩ hF; replace hO := hk; clear hk
      replace hO := hO.front (.tail (.head _))
      replace hO := hO.unfront (.tail (.tail (.head _)))
      replace hO := hO.unfront (.tail (.head _))
      refine ⟨hO.sub (.cons _ (.cons _ (.cons_cons _ (.cons_cons _ (.cons_cons _ (.cons_cons _ (List.nil_sublist _))))))), ?_⟩
      refine A_one (i := 17) (listed' := #[true, true, true, true, true, true, true, true, true, true, true, true, true, true, true, true, true, true, true, true, true, true, false, false]) (by kernel_rfl) rfl (by kernel_rfl) ?_
      refine OpK.lc hF (num_eV ea ((readCd l 0).2.2) W26 (hI ▸ hE.own hO) (by exact her)) ?_
      clear hF; rintro _ W27 a ⟨rfl, hk⟩ hF
      replace hO := hO.call0 hk; clear hk
      refine ⟨hO.sub (.cons _ (.cons _ (.cons_cons _ (.cons_cons _ (.cons_cons _ (.cons_cons _ (List.nil_sublist _))))))), ?_⟩
      refine A_norm (listed' := #[true, true, true, true, true, true, true, true, true, true, true, true, true, true, true, true, true, true, true, true, true, true, false, false]) (by kernel_rfl) (hcut4 _ _ ⟨hF.restrict ⟨(by kernel_rfl), (by kernel_rfl), (by kernel_rfl), (by kernel_rfl), (by kernel_rfl), trivial⟩, (hO.sub (.cons_cons _ (.cons_cons _ (.cons_cons _ (.cons_cons _ (.cons_cons _ (.cons_cons _ (List.nil_sublist _))))))))⟩)
   ·
    intro hcut2
    refine A_many [7, 11] (by kernel_rfl) rfl ⟨?_, ?_, trivial⟩
    ·
     refine A_br (listed' := #[true, true, true, true, true, true, true, true, true, true, true, false, false, false, false, false, false, false, false, false, false, false, false, false]) rfl (by kernel_rfl) ?_
     replace hO := hO.front (.tail (.tail (.head _)))
     replace hO := hO.front (.tail (.tail (.head _)))
     refine OpK.lc hF (cur_Place W _ I ea c1 q4 qc3 l ((readCd l 0).2.1) ((readCd l 0).2.2) W9 hO (by omega) (by omega)) ?_
     clear hF; rintro _ W28 a ⟨rfl, hk⟩ hF; replace hO := hk; clear hk
     replace hO := hO.front (.tail (.head _))
     replace hO := hO.unfront (.tail (.tail (.head _)))
     replace hO := hO.unfront (.tail (.head _))
     refine ⟨hO.sub (.cons _ (.cons _ (.cons_cons _ (.cons_cons _ (.cons_cons _ (.cons_cons _ (List.nil_sublist _))))))), ?_⟩
     refine A_one (i := 11) (listed' := #[true, true, true, true, true, true, true, true, true, true, true, true, false, false, false, false, false, false, false, false, false, false, false, false]) (by kernel_rfl) rfl (by kernel_rfl) ?_
     refine OpK.vr hF (.int .i64 (((readCd l 0).2.1 : Int))) (x_load (p := .pointer (some ⟨b2, 1, none⟩)) rfl (by kernel_rfl) (run_load1 (by kernel_rfl) ((hO.cell List.mem_cons_self).trans (by kernel_rfl)))) ?_; clear hF; intro a hF
     refine ⟨hO.sub (.cons _ (.cons _ (.cons_cons _ (.cons_cons _ (.cons_cons _ (.cons_cons _ (List.nil_sublist _))))))), ?_⟩
     refine A_norm (listed' := #[true, true, true, true, true, true, true, true, true, true, true, true, false, false, false, false, false, false, false, false, false, false, false, false]) (by kernel_rfl) (hcut2 _ _ ⟨hF.restrict ⟨(by kernel_rfl), (by kernel_rfl), (by kernel_rfl), (by kernel_rfl), (by kernel_rfl), (by kernel_rfl), (by kernel_rfl), trivial⟩, (hO.sub (.cons_cons _ (.cons_cons _ (.cons_cons _ (.cons_cons _ (.cons_cons _ (.cons_cons _ (List.nil_sublist _))))))))⟩)
    ·
     refine A_br (listed' := #[true, true, true, true, true, true, true, false, true, true, true, true, false, false, false, false, false, false, false, false, false, false, false, false]) rfl (by kernel_rfl) ?_
     refine OpK.vr hF (.int .i64 (((readCd l 0).2.1 : Int))) (x_load (p := .pointer (some ⟨b2, 1, none⟩)) rfl (by kernel_rfl) (run_load1 (by kernel_rfl) ((hO.cell List.mem_cons_self).trans (by kernel_rfl)))) ?_; clear hF; intro a hF
     refine ⟨hO.sub (.cons _ (.cons _ (.cons_cons _ (.cons_cons _ (.cons_cons _ (.cons_cons _ (List.nil_sublist _))))))), ?_⟩
     refine A_one (i := 7) (listed' := #[true, true, true, true, true, true, true, true, true, true, true, true, false, false, false, false, false, false, false, false, false, false, false, false]) (by kernel_rfl) rfl (by kernel_rfl) ?_
     replace hO := hO.front (.tail (.tail (.head _)))
     replace hO := hO.front (.tail (.tail (.head _)))
     refine OpK.lc hF (cur_Place W _ I ea c1 q4 qc3 l ((readCd l 0).2.1) ((readCd l 0).2.2) W9 hO (by omega) (by omega)) ?_
     clear hF; rintro _ W29 a ⟨rfl, hk⟩ hF; replace hO := hk; clear hk
     replace hO := hO.front (.tail (.head _))
     replace hO := hO.unfront (.tail (.tail (.head _)))
     replace hO := hO.unfront (.tail (.head _))
     refine ⟨hO.sub (.cons _ (.cons _ (.cons_cons _ (.cons_cons _ (.cons_cons _ (.cons_cons _ (List.nil_sublist _))))))), ?_⟩
     refine A_norm (listed' := #[true, true, true, true, true, true, true, true, true, true, true, true, false, false, false, false, false, false, false, false, false, false, false, false]) (by kernel_rfl) (hcut2 _ _ ⟨hF.restrict ⟨(by kernel_rfl), (by kernel_rfl), (by kernel_rfl), (by kernel_rfl), (by kernel_rfl), (by kernel_rfl), (by kernel_rfl), trivial⟩, (hO.sub (.cons_cons _ (.cons_cons _ (.cons_cons _ (.cons_cons _ (.cons_cons _ (.cons_cons _ (List.nil_sublist _))))))))⟩)
  ·
   intro hcut1
   refine A_many [2, 4] (by kernel_rfl) rfl ⟨?_, ?_, trivial⟩
   ·
    refine A_br (listed' := #[true, true, true, true, false, false, false]) rfl (by kernel_rfl) ?_
    refine OpK.vr hF (.string (⟨(putCd xp).toArray⟩ : ByteArray)) (x_conv (run_bytes_string (P := Tryz.prog) (src := 46) (dst := 9) (e := 5) (p := q2) (l := putCd xp) (c := qc1) (hO.row List.mem_cons_self) Tryz.underlying46 Tryz.underlying5 Tryz.underlying9) rfl (by kernel_rfl)) ?_; clear hF; intro a hF
    refine ⟨hO.sub (.cons _ (.cons_cons _ (List.nil_sublist _))), ?_⟩
    refine A_one (i := 4) (listed' := #[true, true, true, true, true, false, false]) (by kernel_rfl) rfl (by kernel_rfl) ?_
    refine OpK.lc hF (rcidr_Put xp W3) ?_
    clear hF; rintro _ W30 a ⟨q9, qc6, rfl, hk⟩ hF
    replace hO := hO.call1 hk; clear hk
    refine ⟨hO.sub (.cons _ (.cons _ (.cons_cons _ (List.nil_sublist _)))), ?_⟩
    refine A_one (i := 5) (listed' := #[true, true, true, true, true, true, false]) (by kernel_rfl) rfl (by kernel_rfl) ?_
    refine OpK.vr hF (.string (⟨(putCd xp).toArray⟩ : ByteArray)) (x_conv (run_bytes_string (P := Tryz.prog) (src := 46) (dst := 9) (e := 5) (p := q9) (l := putCd xp) (c := qc6) (hO.row List.mem_cons_self) Tryz.underlying46 Tryz.underlying5 Tryz.underlying9) rfl (by kernel_rfl)) ?_; clear hF; intro a hF
    refine ⟨hO.sub (.cons _ (.cons _ (.cons_cons _ (List.nil_sublist _)))), ?_⟩
    refine A_norm (listed' := #[true, true, true, true, true, true, false]) (by kernel_rfl) (hcut1 _ _ ⟨q9, qc6, hF.restrict ⟨(by kernel_rfl), (by kernel_rfl), (by kernel_rfl), (by kernel_rfl), (by kernel_rfl), trivial⟩, (hO.sub (.cons_cons _ (.cons_cons _ (.cons_cons _ (List.nil_sublist _)))))⟩)
   ·
    refine A_br (listed' := #[true, true, false, true, true, false, false]) rfl (by kernel_rfl) ?_
    refine OpK.lc hF (rcidr_Put xp W3) ?_
    clear hF; rintro _ W31 a ⟨q10, qc7, rfl, hk⟩ hF
    replace hO := hO.call1 hk; clear hk
    refine ⟨hO.sub (.cons _ (.cons _ (.cons_cons _ (List.nil_sublist _)))), ?_⟩
    refine A_cut (fun a Wx => Fr 64 a [(1, .slice p l.length cap), (2, .pointer (some ⟨b1, 0, none⟩)), (4, .bool false), (15, .string (⟨(putCd xp).toArray⟩ : ByteArray)), (18, .string (⟨(putCd xp).toArray⟩ : ByteArray))] ∧ Own W noX [rowL u8L 1 5 q10 qc7 (putCd xp), rowL u8L 1 5 q2 qc1 (putCd xp), .blk b1 (.cells #[.bool xp.ip.six, .int .u8 ((xp.ip.b0.toNat : Int)), .int .u8 ((xp.ip.b1.toNat : Int)), .int .u8 ((xp.ip.b2.toNat : Int)), .int .u8 ((xp.ip.b3.toNat : Int)), .int .u8 ((xp.ip.b4.toNat : Int)), .int .u8 ((xp.ip.b5.toNat : Int)), .int .u8 ((xp.ip.b6.toNat : Int)), .int .u8 ((xp.ip.b7.toNat : Int)), .int .u8 ((xp.ip.b8.toNat : Int)), .int .u8 ((xp.ip.b9.toNat : Int)), .int .u8 ((xp.ip.b10.toNat : Int)), .int .u8 ((xp.ip.b11.toNat : Int)), .int .u8 ((xp.ip.b12.toNat : Int)), .int .u8 ((xp.ip.b13.toNat : Int)), .int .u8 ((xp.ip.b14.toNat : Int)), .int .u8 ((xp.ip.b15.toNat : Int)), .int .i64 (xp.port)] 68 (0, 0))] Wx) (fuel := 1) (listed := #[true, true, true, true, true, true, false]) ?_ ?_
    ·
     clear hF hO; rintro a W32 ⟨hF, hO⟩
     refine A_norm (listed' := #[true, true, true, true, true, true, false]) (by kernel_rfl) (hcut1 _ _ ⟨q10, qc7, hF.restrict ⟨(by kernel_rfl), (by kernel_rfl), (by kernel_rfl), (by kernel_rfl), (by kernel_rfl), trivial⟩, (hO.sub (.cons_cons _ (.cons_cons _ (.cons_cons _ (List.nil_sublist _)))))⟩)
    ·
     intro hcut6
     refine A_many [2, 5] (by kernel_rfl) rfl ⟨?_, ?_, trivial⟩
     ·
      refine A_br (listed' := #[true, true, true, true, true, false, false]) rfl (by kernel_rfl) ?_
      refine OpK.vr hF (.string (⟨(putCd xp).toArray⟩ : ByteArray)) (x_conv (run_bytes_string (P := Tryz.prog) (src := 46) (dst := 9) (e := 5) (p := q2) (l := putCd xp) (c := qc1) (hO.row (List.mem_cons_of_mem _ List.mem_cons_self)) Tryz.underlying46 Tryz.underlying5 Tryz.underlying9) rfl (by kernel_rfl)) ?_; clear hF; intro a hF
      refine ⟨hO.sub (.cons _ (.cons _ (.cons_cons _ (List.nil_sublist _)))), ?_⟩
      refine A_one (i := 5) (listed' := #[true, true, true, true, true, true, false]) (by kernel_rfl) rfl (by kernel_rfl) ?_
      refine OpK.vr hF (.string (⟨(putCd xp).toArray⟩ : ByteArray)) (x_conv (run_bytes_string (P := Tryz.prog) (src := 46) (dst := 9) (e := 5) (p := q10) (l := putCd xp) (c := qc7) (hO.row List.mem_cons_self) Tryz.underlying46 Tryz.underlying5 Tryz.underlying9) rfl (by kernel_rfl)) ?_; clear hF; intro a hF
      refine ⟨hO.sub (.cons _ (.cons _ (.cons_cons _ (List.nil_sublist _)))), ?_⟩
      refine A_norm (listed' := #[true, true, true, true, true, true, false]) (by kernel_rfl) (hcut6 _ _ ⟨hF.restrict ⟨(by kernel_rfl), (by kernel_rfl), (by kernel_rfl), (by kernel_rfl), (by kernel_rfl), trivial⟩, (hO.sub (.cons_cons _ (.cons_cons _ (.cons_cons _ (List.nil_sublist _)))))⟩)
     ·
      refine A_br (listed' := #[true, true, false, true, true, true, false]) rfl (by kernel_rfl) ?_
      refine OpK.vr hF (.string (⟨(putCd xp).toArray⟩ : ByteArray)) (x_conv (run_bytes_string (P := Tryz.prog) (src := 46) (dst := 9) (e := 5) (p := q10) (l := putCd xp) (c := qc7) (hO.row List.mem_cons_self) Tryz.underlying46 Tryz.underlying5 Tryz.underlying9) rfl (by kernel_rfl)) ?_; clear hF; intro a hF
      refine ⟨hO.sub (.cons _ (.cons _ (.cons_cons _ (List.nil_sublist _)))), ?_⟩
      refine A_one (i := 2) (listed' := #[true, true, true, true, true, true, false]) (by kernel_rfl) rfl (by kernel_rfl) ?_
      refine OpK.vr hF (.string (⟨(putCd xp).toArray⟩ : ByteArray)) (x_conv (run_bytes_string (P := Tryz.prog) (src := 46) (dst := 9) (e := 5) (p := q2) (l := putCd xp) (c := qc1) (hO.row (List.mem_cons_of_mem _ List.mem_cons_self)) Tryz.underlying46 Tryz.underlying5 Tryz.underlying9) rfl (by kernel_rfl)) ?_; clear hF; intro a hF
      refine ⟨hO.sub (.cons _ (.cons _ (.cons_cons _ (List.nil_sublist _)))), ?_⟩
      refine A_norm (listed' := #[true, true, true, true, true, true, false]) (by kernel_rfl) (hcut6 _ _ ⟨hF.restrict ⟨(by kernel_rfl), (by kernel_rfl), (by kernel_rfl), (by kernel_rfl), (by kernel_rfl), trivial⟩, (hO.sub (.cons_cons _ (.cons_cons _ (.cons_cons _ (List.nil_sublist _)))))⟩)

end Go.Proofs.YthellfigmpjhlaaGreatDoor
