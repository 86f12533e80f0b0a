import Derived.Test.YthellfigmpjhlaaGreatDoorOctR
namespace Go.Proofs.YthellfigmpjhlaaGreatDoor
open Go Go.RowKit
set_option linter.unusedVariables false
set_option linter.unusedSimpArgs false
set_option maxRecDepth 20000 in
theorem addr_Six (x : Ip) (W : World) : Ret Tryz.prog 45 #[octV x] W fun v W' => v = .agg #[.bool true, .int .u8 (x.b0.toNat : Int), .int .u8 (x.b1.toNat : Int), .int .u8 (x.b2.toNat : Int), .int .u8 (x.b3.toNat : Int), .int .u8 (x.b4.toNat : Int), .int .u8 (x.b5.toNat : Int), .int .u8 (x.b6.toNat : Int), .int .u8 (x.b7.toNat : Int), .int .u8 (x.b8.toNat : Int), .int .u8 (x.b9.toNat : Int), .int .u8 (x.b10.toNat : Int), .int .u8 (x.b11.toNat : Int), .int .u8 (x.b12.toNat : Int), .int .u8 (x.b13.toNat : Int), .int .u8 (x.b14.toNat : Int), .int .u8 (x.b15.toNat : Int)] ∧ Own W noX [] W' := by
 refine enter Tryz.func45 rfl (n := 5) rfl (by kernel_rfl) (E0 := [(0, octV x)]) (by kernel_rfl) ?_
 intro a hF; have hO := Own.start W noX
 refine wp_seq_k fun K1 hK1 => ?_
 refine wp_region_lit ?_
 refine L_new hF hO (by kernel_rfl) (by kernel_rfl) (vf := fun b => .pointer (some ⟨b, 0, none⟩)) (ob := .cells #[.int .u8 ((x.b0.toNat : Int)), .int .u8 ((x.b1.toNat : Int)), .int .u8 ((x.b2.toNat : Int)), .int .u8 ((x.b3.toNat : Int)), .int .u8 ((x.b4.toNat : Int)), .int .u8 ((x.b5.toNat : Int)), .int .u8 ((x.b6.toNat : Int)), .int .u8 ((x.b7.toNat : Int)), .int .u8 ((x.b8.toNat : Int)), .int .u8 ((x.b9.toNat : Int)), .int .u8 ((x.b10.toNat : Int)), .int .u8 ((x.b11.toNat : Int)), .int .u8 ((x.b12.toNat : Int)), .int .u8 ((x.b13.toNat : Int)), .int .u8 ((x.b14.toNat : Int)), .int .u8 ((x.b15.toNat : Int))] 31) (by kernel_rfl) (by kernel_rfl) ?_
 clear hF hO; intro b1 W1 a hO hF
 refine L_new hF hO (by kernel_rfl) (by kernel_rfl) (vf := fun b => .pointer (some ⟨b, 0, none⟩)) (ob := .cells #[.bool false, .int .u8 0, .int .u8 0, .int .u8 0, .int .u8 0, .int .u8 0, .int .u8 0, .int .u8 0, .int .u8 0, .int .u8 0, .int .u8 0, .int .u8 0, .int .u8 0, .int .u8 0, .int .u8 0, .int .u8 0, .int .u8 0] 33) (by kernel_rfl) (by kernel_rfl) ?_
 clear hF hO; intro b2 W2 a hO hF
 refine L_nil ?_
 refine hK1 _ _ ?_
 refine wp_seq_k fun K2 hK2 => ?_
 refine wp_region_lit ?_
 refine Vr hF (.agg #[.int .u8 ((x.b0.toNat : Int)), .int .u8 ((x.b1.toNat : Int)), .int .u8 ((x.b2.toNat : Int)), .int .u8 ((x.b3.toNat : Int)), .int .u8 ((x.b4.toNat : Int)), .int .u8 ((x.b5.toNat : Int)), .int .u8 ((x.b6.toNat : Int)), .int .u8 ((x.b7.toNat : Int)), .int .u8 ((x.b8.toNat : Int)), .int .u8 ((x.b9.toNat : Int)), .int .u8 ((x.b10.toNat : Int)), .int .u8 ((x.b11.toNat : Int)), .int .u8 ((x.b12.toNat : Int)), .int .u8 ((x.b13.toNat : Int)), .int .u8 ((x.b14.toNat : Int)), .int .u8 ((x.b15.toNat : Int))]) (x_load (p := .pointer (some ⟨b1, 0, none⟩)) rfl (by kernel_rfl) (run_loadA (k := 16) (by kernel_rfl) (by kernel_rfl) (hO.blk (List.mem_cons_of_mem _ List.mem_cons_self)) (by kernel_rfl) (by kernel_rfl))) ?_; clear hF; intro a hF
 refine Vp hF (.agg #[.bool true, .int .u8 ((x.b0.toNat : Int)), .int .u8 ((x.b1.toNat : Int)), .int .u8 ((x.b2.toNat : Int)), .int .u8 ((x.b3.toNat : Int)), .int .u8 ((x.b4.toNat : Int)), .int .u8 ((x.b5.toNat : Int)), .int .u8 ((x.b6.toNat : Int)), .int .u8 ((x.b7.toNat : Int)), .int .u8 ((x.b8.toNat : Int)), .int .u8 ((x.b9.toNat : Int)), .int .u8 ((x.b10.toNat : Int)), .int .u8 ((x.b11.toNat : Int)), .int .u8 ((x.b12.toNat : Int)), .int .u8 ((x.b13.toNat : Int)), .int .u8 ((x.b14.toNat : Int)), .int .u8 ((x.b15.toNat : Int))]) ?_; clear hF; intro a hF
 obtain ⟨W3, hst, hO1⟩ := run_storeAt (P := Tryz.prog) (k := 17) (T := 33) (off := 0) (v := .agg #[.bool true, .int .u8 ((x.b0.toNat : Int)), .int .u8 ((x.b1.toNat : Int)), .int .u8 ((x.b2.toNat : Int)), .int .u8 ((x.b3.toNat : Int)), .int .u8 ((x.b4.toNat : Int)), .int .u8 ((x.b5.toNat : Int)), .int .u8 ((x.b6.toNat : Int)), .int .u8 ((x.b7.toNat : Int)), .int .u8 ((x.b8.toNat : Int)), .int .u8 ((x.b9.toNat : Int)), .int .u8 ((x.b10.toNat : Int)), .int .u8 ((x.b11.toNat : Int)), .int .u8 ((x.b12.toNat : Int)), .int .u8 ((x.b13.toNat : Int)), .int .u8 ((x.b14.toNat : Int)), .int .u8 ((x.b15.toNat : Int))]) (cs := #[.bool false, .int .u8 0, .int .u8 0, .int .u8 0, .int .u8 0, .int .u8 0, .int .u8 0, .int .u8 0, .int .u8 0, .int .u8 0, .int .u8 0, .int .u8 0, .int .u8 0, .int .u8 0, .int .u8 0, .int .u8 0, .int .u8 0]) (cs' := #[.bool true, .int .u8 ((x.b0.toNat : Int)), .int .u8 ((x.b1.toNat : Int)), .int .u8 ((x.b2.toNat : Int)), .int .u8 ((x.b3.toNat : Int)), .int .u8 ((x.b4.toNat : Int)), .int .u8 ((x.b5.toNat : Int)), .int .u8 ((x.b6.toNat : Int)), .int .u8 ((x.b7.toNat : Int)), .int .u8 ((x.b8.toNat : Int)), .int .u8 ((x.b9.toNat : Int)), .int .u8 ((x.b10.toNat : Int)), .int .u8 ((x.b11.toNat : Int)), .int .u8 ((x.b12.toNat : Int)), .int .u8 ((x.b13.toNat : Int)), .int .u8 ((x.b14.toNat : Int)), .int .u8 ((x.b15.toNat : Int))]) hO (by kernel_rfl) (by kernel_rfl) (by kernel_rfl) (Nat.le_of_ble_eq_true (by kernel_rfl)) (by kernel_rfl) (.head _)
 refine L_skip hF (by kernel_rfl) (by kernel_rfl) (x_store (p := .pointer (some ⟨b2, 0, none⟩)) (v := .agg #[.bool true, .int .u8 ((x.b0.toNat : Int)), .int .u8 ((x.b1.toNat : Int)), .int .u8 ((x.b2.toNat : Int)), .int .u8 ((x.b3.toNat : Int)), .int .u8 ((x.b4.toNat : Int)), .int .u8 ((x.b5.toNat : Int)), .int .u8 ((x.b6.toNat : Int)), .int .u8 ((x.b7.toNat : Int)), .int .u8 ((x.b8.toNat : Int)), .int .u8 ((x.b9.toNat : Int)), .int .u8 ((x.b10.toNat : Int)), .int .u8 ((x.b11.toNat : Int)), .int .u8 ((x.b12.toNat : Int)), .int .u8 ((x.b13.toNat : Int)), .int .u8 ((x.b14.toNat : Int)), .int .u8 ((x.b15.toNat : Int))]) rfl (by kernel_rfl) (by kernel_rfl) hst) (by kernel_rfl) ?_
 clear hst hF; intro a hF; replace hO := hO1; clear hO1
 refine L_nil ?_
 refine hK2 _ _ ?_
 refine wp_ret ?_
 refine ret1 hF (v := .agg #[.bool true, .int .u8 ((x.b0.toNat : Int)), .int .u8 ((x.b1.toNat : Int)), .int .u8 ((x.b2.toNat : Int)), .int .u8 ((x.b3.toNat : Int)), .int .u8 ((x.b4.toNat : Int)), .int .u8 ((x.b5.toNat : Int)), .int .u8 ((x.b6.toNat : Int)), .int .u8 ((x.b7.toNat : Int)), .int .u8 ((x.b8.toNat : Int)), .int .u8 ((x.b9.toNat : Int)), .int .u8 ((x.b10.toNat : Int)), .int .u8 ((x.b11.toNat : Int)), .int .u8 ((x.b12.toNat : Int)), .int .u8 ((x.b13.toNat : Int)), .int .u8 ((x.b14.toNat : Int)), .int .u8 ((x.b15.toNat : Int))]) rfl (resC (ad := ⟨b2, 0, none⟩) (by kernel_rfl) (run_loadA (k := 17) (by kernel_rfl) (by kernel_rfl) (hO.blk List.mem_cons_self) (by kernel_rfl) (by kernel_rfl))) (by refine ⟨?_, hO.nil⟩; first | rfl | (simp [*]; done)) .ret (.inl rfl)

set_option maxRecDepth 20000 in
theorem addr_Four (f0 f1 f2 f3 : UInt8) (W : World) : Ret Tryz.prog 47 #[.int .u8 ((f0.toNat : Int)), .int .u8 ((f1.toNat : Int)), .int .u8 ((f2.toNat : Int)), .int .u8 ((f3.toNat : Int))] W fun v W' => v = .agg #[.bool false, .int .u8 (f0.toNat : Int), .int .u8 (f1.toNat : Int), .int .u8 (f2.toNat : Int), .int .u8 (f3.toNat : Int), .int .u8 0, .int .u8 0, .int .u8 0, .int .u8 0, .int .u8 0, .int .u8 0, .int .u8 0, .int .u8 0, .int .u8 0, .int .u8 0, .int .u8 0, .int .u8 0] ∧ Own W noX [] W' := by
 refine enter Tryz.func47 rfl (n := 15) rfl (by kernel_rfl) (E0 := [(3, .int .u8 ((f3.toNat : Int))), (2, .int .u8 ((f2.toNat : Int))), (1, .int .u8 ((f1.toNat : Int))), (0, .int .u8 ((f0.toNat : Int)))]) (by kernel_rfl) ?_
 intro a hF; have hO := Own.start W noX
 refine wp_seq_k fun K1 hK1 => ?_
 refine wp_region_lit ?_
 refine L_new hF hO (by kernel_rfl) (by kernel_rfl) (vf := fun b => .pointer (some ⟨b, 0, none⟩)) (ob := .cells #[.bool false, .int .u8 0, .int .u8 0, .int .u8 0, .int .u8 0, .int .u8 0, .int .u8 0, .int .u8 0, .int .u8 0, .int .u8 0, .int .u8 0, .int .u8 0, .int .u8 0, .int .u8 0, .int .u8 0, .int .u8 0, .int .u8 0] 33) (by kernel_rfl) (by kernel_rfl) ?_
 clear hF hO; intro b1 W1 a hO hF
 refine L_nil ?_
 refine hK1 _ _ ?_
 refine wp_seq_k fun K2 hK2 => ?_
 refine wp_region_lit ?_
 refine Vp hF (.int .u8 ((f0.toNat : Int))) ?_; clear hF; intro a hF
 refine Vp hF (.int .u8 ((f1.toNat : Int))) ?_; clear hF; intro a hF
 refine Vp hF (.int .u8 ((f2.toNat : Int))) ?_; clear hF; intro a hF
 refine Vp hF (.int .u8 ((f3.toNat : Int))) ?_; clear hF; intro a hF
 refine Vp hF (.agg #[.int .u8 ((f0.toNat : Int)), .int .u8 ((f1.toNat : Int)), .int .u8 ((f2.toNat : Int)), .int .u8 ((f3.toNat : Int)), .int .u8 0, .int .u8 0, .int .u8 0, .int .u8 0, .int .u8 0, .int .u8 0, .int .u8 0, .int .u8 0, .int .u8 0, .int .u8 0, .int .u8 0, .int .u8 0]) ?_; clear hF; intro a hF
 refine Vp hF (.agg #[.bool false, .int .u8 ((f0.toNat : Int)), .int .u8 ((f1.toNat : Int)), .int .u8 ((f2.toNat : Int)), .int .u8 ((f3.toNat : Int)), .int .u8 0, .int .u8 0, .int .u8 0, .int .u8 0, .int .u8 0, .int .u8 0, .int .u8 0, .int .u8 0, .int .u8 0, .int .u8 0, .int .u8 0, .int .u8 0]) ?_; clear hF; intro a hF
 obtain ⟨W2, hst, hO1⟩ := run_storeAt (P := Tryz.prog) (k := 17) (T := 33) (off := 0) (v := .agg #[.bool false, .int .u8 ((f0.toNat : Int)), .int .u8 ((f1.toNat : Int)), .int .u8 ((f2.toNat : Int)), .int .u8 ((f3.toNat : Int)), .int .u8 0, .int .u8 0, .int .u8 0, .int .u8 0, .int .u8 0, .int .u8 0, .int .u8 0, .int .u8 0, .int .u8 0, .int .u8 0, .int .u8 0, .int .u8 0]) (cs := #[.bool false, .int .u8 0, .int .u8 0, .int .u8 0, .int .u8 0, .int .u8 0, .int .u8 0, .int .u8 0, .int .u8 0, .int .u8 0, .int .u8 0, .int .u8 0, .int .u8 0, .int .u8 0, .int .u8 0, .int .u8 0, .int .u8 0]) (cs' := #[.bool false, .int .u8 ((f0.toNat : Int)), .int .u8 ((f1.toNat : Int)), .int .u8 ((f2.toNat : Int)), .int .u8 ((f3.toNat : Int)), .int .u8 0, .int .u8 0, .int .u8 0, .int .u8 0, .int .u8 0, .int .u8 0, .int .u8 0, .int .u8 0, .int .u8 0, .int .u8 0, .int .u8 0, .int .u8 0]) hO (by kernel_rfl) (by kernel_rfl) (by kernel_rfl) (Nat.le_of_ble_eq_true (by kernel_rfl)) (by kernel_rfl) (.head _)
 refine L_skip hF (by kernel_rfl) (by kernel_rfl) (x_store (p := .pointer (some ⟨b1, 0, none⟩)) (v := .agg #[.bool false, .int .u8 ((f0.toNat : Int)), .int .u8 ((f1.toNat : Int)), .int .u8 ((f2.toNat : Int)), .int .u8 ((f3.toNat : Int)), .int .u8 0, .int .u8 0, .int .u8 0, .int .u8 0, .int .u8 0, .int .u8 0, .int .u8 0, .int .u8 0, .int .u8 0, .int .u8 0, .int .u8 0, .int .u8 0]) rfl (by kernel_rfl) (by kernel_rfl) hst) (by kernel_rfl) ?_
 clear hst hF; intro a hF; replace hO := hO1; clear hO1
 refine L_nil ?_
 refine hK2 _ _ ?_
 refine wp_ret ?_
 refine ret1 hF (v := .agg #[.bool false, .int .u8 ((f0.toNat : Int)), .int .u8 ((f1.toNat : Int)), .int .u8 ((f2.toNat : Int)), .int .u8 ((f3.toNat : Int)), .int .u8 0, .int .u8 0, .int .u8 0, .int .u8 0, .int .u8 0, .int .u8 0, .int .u8 0, .int .u8 0, .int .u8 0, .int .u8 0, .int .u8 0, .int .u8 0]) rfl (resC (ad := ⟨b1, 0, none⟩) (by kernel_rfl) (run_loadA (k := 17) (by kernel_rfl) (by kernel_rfl) (hO.blk List.mem_cons_self) (by kernel_rfl) (by kernel_rfl))) (by refine ⟨?_, hO.nil⟩; first | rfl | (simp [*]; done)) .ret (.inl rfl)

set_option maxRecDepth 20000 in
theorem law02_AddrBytes4 (I : List Nat) (ea : Nat → Addr) (xa : Ip) (p : Option Addr) (cap : Nat) (l : List UInt8) (f0 f1 f2 f3 : UInt8) (W : World) (hG : LibW W) (hE : Errs I ea W) (h3 : I.contains 3 = true) (h1 : I.contains 1 = true) (h6 : I.contains 6 = true) (hI : I = errIs) (hl : SlAt W p (l.flatMap u8L)) (hcap : l.length ≤ cap) (h4 : l.length = 4) : Ret Tryz.prog 8 #[ipV xa, .slice p l.length cap, .agg #[.int .u8 ((f0.toNat : Int)), .int .u8 ((f1.toNat : Int)), .int .u8 ((f2.toNat : Int)), .int .u8 ((f3.toNat : Int))]] W fun v W' => v = .bool true ∧ Own W noX [] W' := by
 have hat := readIp_in (l := l) (k := 0) (Nat.zero_le _)
 have her := readIp_e l 0
 have hoc := octs_4 h4
 refine enter Tryz.func8 rfl (n := 143) rfl (by kernel_rfl) (E0 := [(2, .agg #[.int .u8 ((f0.toNat : Int)), .int .u8 ((f1.toNat : Int)), .int .u8 ((f2.toNat : Int)), .int .u8 ((f3.toNat : Int))]), (1, .slice p l.length cap), (0, ipV xa)]) (by kernel_rfl) ?_
 intro a hF; have hO := Own.start W noX
 refine wp_seq_k fun K1 hK1 => ?_
 refine wp_region_lit ?_
 refine L_new hF hO (by kernel_rfl) (by kernel_rfl) (vf := fun b => .pointer (some ⟨b, 0, none⟩)) (ob := .cells #[.bool xa.six, .int .u8 ((xa.b0.toNat : Int)), .int .u8 ((xa.b1.toNat : Int)), .int .u8 ((xa.b2.toNat : Int)), .int .u8 ((xa.b3.toNat : Int)), .int .u8 ((xa.b4.toNat : Int)), .int .u8 ((xa.b5.toNat : Int)), .int .u8 ((xa.b6.toNat : Int)), .int .u8 ((xa.b7.toNat : Int)), .int .u8 ((xa.b8.toNat : Int)), .int .u8 ((xa.b9.toNat : Int)), .int .u8 ((xa.b10.toNat : Int)), .int .u8 ((xa.b11.toNat : Int)), .int .u8 ((xa.b12.toNat : Int)), .int .u8 ((xa.b13.toNat : Int)), .int .u8 ((xa.b14.toNat : Int)), .int .u8 ((xa.b15.toNat : Int))] 33) (by kernel_rfl) (by kernel_rfl) ?_
 clear hF hO; intro b1 W1 a hO hF
 replace hO := hO.reblk (cs := #[.bool xa.six, .int .u8 ((xa.b0.toNat : Int)), .int .u8 ((xa.b1.toNat : Int)), .int .u8 ((xa.b2.toNat : Int)), .int .u8 ((xa.b3.toNat : Int)), .int .u8 ((xa.b4.toNat : Int)), .int .u8 ((xa.b5.toNat : Int)), .int .u8 ((xa.b6.toNat : Int)), .int .u8 ((xa.b7.toNat : Int)), .int .u8 ((xa.b8.toNat : Int)), .int .u8 ((xa.b9.toNat : Int)), .int .u8 ((xa.b10.toNat : Int)), .int .u8 ((xa.b11.toNat : Int)), .int .u8 ((xa.b12.toNat : Int)), .int .u8 ((xa.b13.toNat : Int)), .int .u8 ((xa.b14.toNat : Int)), .int .u8 ((xa.b15.toNat : Int))]) (cs' := (ipL xa).toArray) (by kernel_rfl) (.head _)
 refine L_new hF hO (by kernel_rfl) (by kernel_rfl) (vf := fun b => .pointer (some ⟨b, 0, none⟩)) (ob := .cells #[.int .u8 ((f0.toNat : Int)), .int .u8 ((f1.toNat : Int)), .int .u8 ((f2.toNat : Int)), .int .u8 ((f3.toNat : Int))] 59) (by kernel_rfl) (by kernel_rfl) ?_
 clear hF hO; intro b2 W2 a hO hF
 refine Vp hF (.bool false) ?_; clear hF; intro a hF
 refine L_nil ?_
 refine hK1 _ _ ?_
 refine wp_seq_k fun K2 hK2 => ?_
 refine wp_seq_k fun K3 hK3 => ?_
 refine wp_region_lit ?_
 refine Lc hF (law02_alive I ea W2 (hG.own hO) (hE.own hO) h3) ?_
 clear hF; rintro _ W3 a ⟨rfl, hk⟩ hF
 replace hO := hO.call0 hk; clear hk
 refine Vp hF (.bool false) ?_; clear hF; intro a hF
 refine L_nil ?_
 refine hK3 _ _ ?_
 refine cond_f hF (by kernel_rfl) (by kernel_rfl) ?_
 refine wp_skip ?_
 refine hK2 _ _ ?_
 refine wp_seq_k fun K4 hK4 => ?_
 refine wp_seq_k fun K5 hK5 => ?_
 refine wp_region_lit ?_
 refine Vp hF (.slice p l.length cap) ?_; clear hF; intro a hF
 refine Vp hF (.int .i64 ((l.length : Int))) ?_; clear hF; intro a hF
 refine Vp hF (.bool (decide ((l.length : Int) > 100))) ?_; clear hF; intro a hF
 refine L_nil ?_
 refine hK5 _ _ ?_
 by_cases q1 : (l.length : Int) > 100
 ·
  replace hF := hF.know (d := 17) (v' := .bool true) (by kernel_rfl) (congrArg Value.bool (decide_eq_true q1))
  refine cond_t hF (by kernel_rfl) (by kernel_rfl) ?_
  refine wp_seq_k fun K6 hK6 => ?_
  refine wp_region_lit ?_
  refine Vp hF (.bool true) ?_; clear hF; intro a hF
  refine L_nil ?_
  refine hK6 _ _ ?_
  refine wp_ret ?_
  refine then_ret ?_
  refine ret1 hF (v := .bool true) rfl (resT (by kernel_rfl)) (by refine ⟨?_, hO.nil⟩; first | rfl | exact congrArg Value.bool (beq_self_eq_true _) | (exfalso; simp_all; done)) .ret (.inl rfl)
 ·
  replace hF := hF.know (d := 17) (v' := .bool false) (by kernel_rfl) (congrArg Value.bool (decide_eq_false q1))
  refine cond_f hF (by kernel_rfl) (by kernel_rfl) ?_
  refine wp_skip ?_
  refine hK4 _ _ ?_
  refine wp_seq_k fun K7 hK7 => ?_
  refine wp_seq_k fun K8 hK8 => ?_
  refine A_start (fun Wx => Own W noX [.blk b2 (.cells #[.int .u8 ((f0.toNat : Int)), .int .u8 ((f1.toNat : Int)), .int .u8 ((f2.toNat : Int)), .int .u8 ((f3.toNat : Int))] 59 (0, 0)), .blk b1 (.cells (ipL xa).toArray 33 (0, 0))] Wx) (by kernel_rfl) ?_
  replace hO := hO.drewN 1
  generalize hWd : ({ W3 with drawn := W3.drawn + 1 } : World) = W3_d at hO ⊢; clear hWd
  have hS := hO.sub (.cons_cons _ (.cons_cons _ (List.nil_sublist _)))
  refine Tk 0 rfl hF (ipV xa) (fun Wx hO => x_load (p := .pointer (some ⟨b1, 0, none⟩)) rfl (by kernel_rfl) (run_loadA (k := 17) (by kernel_rfl) (by kernel_rfl) (hO.blk (List.mem_cons_of_mem _ List.mem_cons_self)) (by kernel_rfl) (by kernel_rfl))) hS ?_; clear hF; intro a hF
  refine Tk 3 rfl hF (ipV xa) (fun Wx hO => x_load (p := .pointer (some ⟨b1, 0, none⟩)) rfl (by kernel_rfl) (run_loadA (k := 17) (by kernel_rfl) (by kernel_rfl) (hO.blk (List.mem_cons_of_mem _ List.mem_cons_self)) (by kernel_rfl) (by kernel_rfl))) hS ?_; clear hF; intro a hF
  refine A_one (i := 1) (listed' := #[true, true, false, true, false, false, false, false, false, false, false, false, false, false, false, false, false, false, false, false, false, false, false, false, false]) (by kernel_rfl) rfl (by kernel_rfl) ?_
  refine OpK.lc hF (addr_Bytes xa W3_d) ?_
  clear hF; rintro _ W4 a ⟨q2, qc1, rfl, hk⟩ hF
  replace hO := hO.call1 hk; clear hk
  refine ⟨hO.sub (.cons _ (.cons_cons _ (.cons_cons _ (List.nil_sublist _)))), ?_⟩
  refine A_cut (fun a Wx => ∃ (q3 : Option Addr), Fr 143 a [(1, .slice p l.length cap), (3, .pointer (some ⟨b1, 0, none⟩)), (5, .pointer (some ⟨b2, 0, none⟩)), (6, .bool false), (20, .string (⟨(octs xa).toArray⟩ : ByteArray)), (23, .string (⟨(octs xa).toArray⟩ : ByteArray))] ∧ Own W noX [readL u8L q3 (octs xa), rowL u8L 1 5 q2 qc1 (octs xa), .blk b2 (.cells #[.int .u8 ((f0.toNat : Int)), .int .u8 ((f1.toNat : Int)), .int .u8 ((f2.toNat : Int)), .int .u8 ((f3.toNat : Int))] 59 (0, 0)), .blk b1 (.cells (ipL xa).toArray 33 (0, 0))] Wx) (fuel := 19) (listed := #[true, true, true, true, true, true, false, false, false, false, false, false, false, false, false, false, false, false, false, false, false, false, false, false, false]) ?_ ?_
  ·
   clear hF hO; rintro a W6 ⟨q3, hF, hO⟩
   have hS := hO.sub (.cons _ (.cons _ (.cons_cons _ (.cons_cons _ (List.nil_sublist _)))))
   refine Tk 6 rfl hF (.bool false) (fun Wx _ => (x_bool (x := !(strEq (⟨(octs xa).toArray⟩ : ByteArray) (⟨(octs xa).toArray⟩ : ByteArray))) (notF (strEq_refl _)) (by kernel_rfl))) hS ?_; clear hF; intro a hF
   refine Tk 7 rfl hF (.bool false) (fun Wx _ => by kernel_rfl) hS ?_; clear hF; intro a hF
   refine Tk 8 rfl hF (ipV xa) (fun Wx hO => x_load (p := .pointer (some ⟨b1, 0, none⟩)) rfl (by kernel_rfl) (run_loadA (k := 17) (by kernel_rfl) (by kernel_rfl) (hO.blk (List.mem_cons_of_mem _ List.mem_cons_self)) (by kernel_rfl) (by kernel_rfl))) hS ?_; clear hF; intro a hF
   refine Tk 11 rfl hF (ipV xa) (fun Wx hO => x_load (p := .pointer (some ⟨b1, 0, none⟩)) rfl (by kernel_rfl) (run_loadA (k := 17) (by kernel_rfl) (by kernel_rfl) (hO.blk (List.mem_cons_of_mem _ List.mem_cons_self)) (by kernel_rfl) (by kernel_rfl))) hS ?_; clear hF; intro a hF
   refine A_one (i := 9) (listed' := #[true, true, true, true, true, true, true, true, true, true, false, true, false, false, false, false, false, false, false, false, false, false, false, false, false]) (by kernel_rfl) rfl (by kernel_rfl) ?_
   refine OpK.lc hF (addr_Put xa W6) ?_
   clear hF; rintro _ W7 a ⟨q4, qc3, rfl, hk⟩ hF
   replace hO := hO.call1 hk; clear hk
   refine ⟨hO.sub (.cons _ (.cons _ (.cons _ (.cons_cons _ (.cons_cons _ (List.nil_sublist _)))))), ?_⟩
   refine A_cut (fun a Wx => ∃ (q5 : Option Addr) (qc4 : Nat), Fr 143 a [(1, .slice p l.length cap), (3, .pointer (some ⟨b1, 0, none⟩)), (5, .pointer (some ⟨b2, 0, none⟩)), (6, .bool false), (25, .bool false), (28, .string (⟨(putIp xa).toArray⟩ : ByteArray)), (31, .string (⟨(putIp xa).toArray⟩ : ByteArray))] ∧ Own W noX [rowL u8L 1 5 q5 qc4 (putIp xa), rowL u8L 1 5 q4 qc3 (putIp xa), readL u8L q3 (octs xa), rowL u8L 1 5 q2 qc1 (octs xa), .blk b2 (.cells #[.int .u8 ((f0.toNat : Int)), .int .u8 ((f1.toNat : Int)), .int .u8 ((f2.toNat : Int)), .int .u8 ((f3.toNat : Int))] 59 (0, 0)), .blk b1 (.cells (ipL xa).toArray 33 (0, 0))] Wx) (fuel := 11) (listed := #[true, true, true, true, true, true, true, true, true, true, true, true, true, true, false, false, false, false, false, false, false, false, false, false, false]) ?_ ?_
   ·
    clear hF hO; rintro a W9 ⟨q5, qc4, hF, hO⟩
    have hS := hO.sub (.cons _ (.cons _ (.cons _ (.cons _ (.cons_cons _ (.cons_cons _ (List.nil_sublist _)))))))
    refine Tk 14 rfl hF (.bool false) (fun Wx _ => (x_bool (x := !(strEq (⟨(putIp xa).toArray⟩ : ByteArray) (⟨(putIp xa).toArray⟩ : ByteArray))) (notF (strEq_refl _)) (by kernel_rfl))) hS ?_; clear hF; intro a hF
    refine Tk 15 rfl hF (.bool false) (fun Wx _ => by kernel_rfl) hS ?_; clear hF; intro a hF
    refine Tk 16 rfl hF (.bool false) (fun Wx _ => by kernel_rfl) hS ?_; clear hF; intro a hF
    refine Tk 17 rfl hF (.pointer (some ⟨b1, 1, none⟩)) (fun Wx _ => by kernel_rfl) hS ?_; clear hF; intro a hF
    refine Tk 18 rfl hF (.agg #[.int .u8 ((xa.b0.toNat : Int)), .int .u8 ((xa.b1.toNat : Int)), .int .u8 ((xa.b2.toNat : Int)), .int .u8 ((xa.b3.toNat : Int)), .int .u8 ((xa.b4.toNat : Int)), .int .u8 ((xa.b5.toNat : Int)), .int .u8 ((xa.b6.toNat : Int)), .int .u8 ((xa.b7.toNat : Int)), .int .u8 ((xa.b8.toNat : Int)), .int .u8 ((xa.b9.toNat : Int)), .int .u8 ((xa.b10.toNat : Int)), .int .u8 ((xa.b11.toNat : Int)), .int .u8 ((xa.b12.toNat : Int)), .int .u8 ((xa.b13.toNat : Int)), .int .u8 ((xa.b14.toNat : Int)), .int .u8 ((xa.b15.toNat : Int))]) (fun Wx hO => x_load (p := .pointer (some ⟨b1, 1, none⟩)) rfl (by kernel_rfl) (run_loadA (k := 16) (by kernel_rfl) (by kernel_rfl) (hO.blk (List.mem_cons_of_mem _ List.mem_cons_self)) (by kernel_rfl) (by kernel_rfl))) hS ?_; clear hF; intro a hF
    refine Tk 20 rfl hF (.pointer (some ⟨b1, 1, none⟩)) (fun Wx _ => by kernel_rfl) hS ?_; clear hF; intro a hF
    refine Tk 21 rfl hF (.agg #[.int .u8 ((xa.b0.toNat : Int)), .int .u8 ((xa.b1.toNat : Int)), .int .u8 ((xa.b2.toNat : Int)), .int .u8 ((xa.b3.toNat : Int)), .int .u8 ((xa.b4.toNat : Int)), .int .u8 ((xa.b5.toNat : Int)), .int .u8 ((xa.b6.toNat : Int)), .int .u8 ((xa.b7.toNat : Int)), .int .u8 ((xa.b8.toNat : Int)), .int .u8 ((xa.b9.toNat : Int)), .int .u8 ((xa.b10.toNat : Int)), .int .u8 ((xa.b11.toNat : Int)), .int .u8 ((xa.b12.toNat : Int)), .int .u8 ((xa.b13.toNat : Int)), .int .u8 ((xa.b14.toNat : Int)), .int .u8 ((xa.b15.toNat : Int))]) (fun Wx hO => x_load (p := .pointer (some ⟨b1, 1, none⟩)) rfl (by kernel_rfl) (run_loadA (k := 16) (by kernel_rfl) (by kernel_rfl) (hO.blk (List.mem_cons_of_mem _ List.mem_cons_self)) (by kernel_rfl) (by kernel_rfl))) hS ?_; clear hF; intro a hF
    refine Tk 22 rfl hF (.agg #[.bool true, .int .u8 ((xa.b0.toNat : Int)), .int .u8 ((xa.b1.toNat : Int)), .int .u8 ((xa.b2.toNat : Int)), .int .u8 ((xa.b3.toNat : Int)), .int .u8 ((xa.b4.toNat : Int)), .int .u8 ((xa.b5.toNat : Int)), .int .u8 ((xa.b6.toNat : Int)), .int .u8 ((xa.b7.toNat : Int)), .int .u8 ((xa.b8.toNat : Int)), .int .u8 ((xa.b9.toNat : Int)), .int .u8 ((xa.b10.toNat : Int)), .int .u8 ((xa.b11.toNat : Int)), .int .u8 ((xa.b12.toNat : Int)), .int .u8 ((xa.b13.toNat : Int)), .int .u8 ((xa.b14.toNat : Int)), .int .u8 ((xa.b15.toNat : Int))]) (fun Wx _ => by kernel_rfl) hS ?_; clear hF; intro a hF
    refine A_one (i := 19) (listed' := #[true, true, true, true, true, true, true, true, true, true, true, true, true, true, true, true, true, true, true, true, true, true, true, false, false]) (by kernel_rfl) rfl (by kernel_rfl) ?_
    refine OpK.lc hF (addr_Six xa W9) ?_
    clear hF; rintro _ W10 a ⟨rfl, hk⟩ hF
    replace hO := hO.call0 hk; clear hk
    refine ⟨hO.sub (.cons _ (.cons _ (.cons _ (.cons _ (.cons_cons _ (.cons_cons _ (List.nil_sublist _))))))), ?_⟩
    have hS := hO.sub (.cons _ (.cons _ (.cons _ (.cons _ (.cons_cons _ (.cons_cons _ (List.nil_sublist _)))))))
    refine Tk 23 rfl hF (.bool false) (fun Wx _ => (x_bool (x := !(decide ((⟨true, xa.b0, xa.b1, xa.b2, xa.b3, xa.b4, xa.b5, xa.b6, xa.b7, xa.b8, xa.b9, xa.b10, xa.b11, xa.b12, xa.b13, xa.b14, xa.b15⟩ : Ip) = (⟨true, xa.b0, xa.b1, xa.b2, xa.b3, xa.b4, xa.b5, xa.b6, xa.b7, xa.b8, xa.b9, xa.b10, xa.b11, xa.b12, xa.b13, xa.b14, xa.b15⟩ : Ip)))) (notF (decide_eq_true rfl)) (x_neIp (a := (⟨true, xa.b0, xa.b1, xa.b2, xa.b3, xa.b4, xa.b5, xa.b6, xa.b7, xa.b8, xa.b9, xa.b10, xa.b11, xa.b12, xa.b13, xa.b14, xa.b15⟩ : Ip)) (b := (⟨true, xa.b0, xa.b1, xa.b2, xa.b3, xa.b4, xa.b5, xa.b6, xa.b7, xa.b8, xa.b9, xa.b10, xa.b11, xa.b12, xa.b13, xa.b14, xa.b15⟩ : Ip)) rfl (by kernel_rfl) (by kernel_rfl)))) hS ?_; clear hF; intro a hF
    refine Tk 24 rfl hF (.bool false) (fun Wx _ => by kernel_rfl) hS ?_; clear hF; intro a hF
    refine A_done (by kernel_rfl) ?_
    refine hK8 _ _ ?_
    refine cond_f hF (by kernel_rfl) (by kernel_rfl) ?_
    refine wp_skip ?_
    refine hK7 _ _ ?_
    refine wp_seq_k fun K9 hK9 => ?_
    refine wp_region_lit ?_
    refine Vp hF (.slice p l.length cap) ?_; clear hF; intro a hF
    refine Lc hF (addr_From_4_n I ea (p) cap (l) l.length (by first | rfl | exact (seg_len (by assumption)).symm | omega) W10 (hl.own hO) (by omega)) ?_
    clear hF; rintro _ W11 a ⟨rfl, hk⟩ hF
    replace hO := hO.call0 hk; clear hk
    refine Vp hF (.tuple #[ipV (noIp.cpy 0 (l)), .nilIface]) ?_; clear hF; intro a hF
    refine Vp hF (ipV (noIp.cpy 0 (l))) ?_; clear hF; intro a hF
    refine Vp hF (.nilIface) ?_; clear hF; intro a hF
    refine L_new hF hO (by kernel_rfl) (by kernel_rfl) (vf := fun b => .pointer (some ⟨b, 0, none⟩)) (ob := .cells #[.bool false, .int .u8 0, .int .u8 0, .int .u8 0, .int .u8 0, .int .u8 0, .int .u8 0, .int .u8 0, .int .u8 0, .int .u8 0, .int .u8 0, .int .u8 0, .int .u8 0, .int .u8 0, .int .u8 0, .int .u8 0, .int .u8 0] 33) (by kernel_rfl) (by kernel_rfl) ?_
    clear hF hO; intro b3 W12 a hO hF
    obtain ⟨W13, hst, hO1⟩ := run_storeAt (P := Tryz.prog) (k := 17) (T := 33) (off := 0) (v := ipV (noIp.cpy 0 (l))) (cs := #[.bool false, .int .u8 0, .int .u8 0, .int .u8 0, .int .u8 0, .int .u8 0, .int .u8 0, .int .u8 0, .int .u8 0, .int .u8 0, .int .u8 0, .int .u8 0, .int .u8 0, .int .u8 0, .int .u8 0, .int .u8 0, .int .u8 0]) (cs' := (ipL (noIp.cpy 0 (l))).toArray) hO (by kernel_rfl) (by kernel_rfl) (by kernel_rfl) (Nat.le_of_ble_eq_true (by kernel_rfl)) (by kernel_rfl) (.head _)
    refine L_skip hF (by kernel_rfl) (by kernel_rfl) (x_store (p := .pointer (some ⟨b3, 0, none⟩)) (v := ipV (noIp.cpy 0 (l))) rfl (by kernel_rfl) (by kernel_rfl) hst) (by kernel_rfl) ?_
    clear hst hF; intro a hF; replace hO := hO1; clear hO1
    refine Vp hF (.nilIface) ?_; clear hF; intro a hF
    refine L_nil ?_
    refine hK9 _ _ ?_
    refine wp_seq_k fun K10 hK10 => ?_
    refine wp_seq_k fun K11 hK11 => ?_
    refine wp_region_lit ?_
    refine Vp hF (.slice p l.length cap) ?_; clear hF; intro a hF
    refine Vp hF (.int .i64 ((l.length : Int))) ?_; clear hF; intro a hF
    refine Vr hF (.bool false) (x_bool (x := !((l.length : Int) == 4)) (by rw [h4]; decide) (by kernel_rfl)) ?_; clear hF; intro a hF
    refine Vp hF (.bool false) ?_; clear hF; intro a hF
    refine Lo hF ?_; clear hF; intro a hF
    refine Lo hF ?_; clear hF; intro a hF
    refine Lo hF ?_; clear hF; intro a hF
    refine Vp hF (.bool false) ?_; clear hF; intro a hF
    refine L_nil ?_
    refine hK11 _ _ ?_
    refine cond_f hF (by kernel_rfl) (by kernel_rfl) ?_
    refine wp_seq_k fun K12 hK12 => ?_
    refine A_start (fun Wx => Own W noX [.blk b3 (.cells (ipL (noIp.cpy 0 (l))).toArray 33 (0, 0)), rowL u8L 1 5 q5 qc4 (putIp xa), rowL u8L 1 5 q4 qc3 (putIp xa), readL u8L q3 (octs xa), rowL u8L 1 5 q2 qc1 (octs xa), .blk b2 (.cells #[.int .u8 ((f0.toNat : Int)), .int .u8 ((f1.toNat : Int)), .int .u8 ((f2.toNat : Int)), .int .u8 ((f3.toNat : Int))] 59 (0, 0)), .blk b1 (.cells (ipL xa).toArray 33 (0, 0))] Wx) (by kernel_rfl) ?_
    replace hO := hO.drewN 1
    generalize hWd : ({ W13 with drawn := W13.drawn + 1 } : World) = W13_d at hO ⊢; clear hWd
    have hS := hO.sub (.cons_cons _ (.cons_cons _ (.cons_cons _ (.cons_cons _ (.cons_cons _ (.cons_cons _ (.cons_cons _ (List.nil_sublist _))))))))
    refine Tk 0 rfl hF (.nilIface) (fun Wx _ => by kernel_rfl) hS ?_; clear hF; intro a hF
    refine Tk 1 rfl hF (.bool false) (fun Wx _ => by kernel_rfl) hS ?_; clear hF; intro a hF
    refine Tk 2 rfl hF (.bool false) (fun Wx _ => by kernel_rfl) hS ?_; clear hF; intro a hF
    refine Tk 3 rfl hF (.pointer (some ⟨b3, 0, none⟩)) (fun Wx _ => by kernel_rfl) hS ?_; clear hF; intro a hF
    refine Tk 4 rfl hF (.bool false) (fun Wx hO => x_load (p := .pointer (some ⟨b3, 0, none⟩)) rfl (by kernel_rfl) (run_load1 (by kernel_rfl) ((hO.cell List.mem_cons_self).trans (by kernel_rfl)))) hS ?_; clear hF; intro a hF
    refine Tk 5 rfl hF (.slice p l.length cap) (fun Wx _ => by kernel_rfl) hS ?_; clear hF; intro a hF
    refine Tk 6 rfl hF (.int .i64 ((l.length : Int))) (fun Wx _ => by kernel_rfl) hS ?_; clear hF; intro a hF
    refine Tk 7 rfl hF (.bool false) (fun Wx _ => (x_bool (x := ((l.length : Int) == 16)) (by rw [h4]; decide) (by kernel_rfl))) hS ?_; clear hF; intro a hF
    refine Tk 8 rfl hF (.bool false) (fun Wx _ => by kernel_rfl) hS ?_; clear hF; intro a hF
    refine Tk 9 rfl hF (.bool false) (fun Wx _ => by kernel_rfl) hS ?_; clear hF; intro a hF
    refine Tk 10 rfl hF (.bool false) (fun Wx _ => by kernel_rfl) hS ?_; clear hF; intro a hF
    refine Tk 11 rfl hF (ipV (noIp.cpy 0 (l))) (fun Wx hO => x_load (p := .pointer (some ⟨b3, 0, none⟩)) rfl (by kernel_rfl) (run_loadA (k := 17) (by kernel_rfl) (by kernel_rfl) (hO.blk List.mem_cons_self) (by kernel_rfl) (by kernel_rfl))) hS ?_; clear hF; intro a hF
    refine Tk 14 rfl hF (.slice p l.length cap) (fun Wx _ => by kernel_rfl) hS ?_; clear hF; intro a hF
    refine A_cut (fun a Wx => ∃ (q6 : Option Addr), Fr 143 a [(1, .slice p l.length cap), (5, .pointer (some ⟨b2, 0, none⟩)), (6, .bool false), (7, .pointer (some ⟨b3, 0, none⟩)), (74, .bool false), (77, .string (⟨(octs (noIp.cpy 0 (l))).toArray⟩ : ByteArray)), (79, .string (⟨l.toArray⟩ : ByteArray))] ∧ Own W noX [readL u8L q6 (octs (noIp.cpy 0 (l))), .blk b3 (.cells (ipL (noIp.cpy 0 (l))).toArray 33 (0, 0)), rowL u8L 1 5 q5 qc4 (putIp xa), rowL u8L 1 5 q4 qc3 (putIp xa), readL u8L q3 (octs xa), rowL u8L 1 5 q2 qc1 (octs xa), .blk b2 (.cells #[.int .u8 ((f0.toNat : Int)), .int .u8 ((f1.toNat : Int)), .int .u8 ((f2.toNat : Int)), .int .u8 ((f3.toNat : Int))] 59 (0, 0)), .blk b1 (.cells (ipL xa).toArray 33 (0, 0))] Wx) (fuel := 7) (listed := #[true, true, true, true, true, true, true, true, true, true, true, true, true, true, true, true, false, false, false, false, false, false, false]) ?_ ?_
    ·
     clear hF hO; rintro a W16 ⟨q6, hF, hO⟩
     have hS := hO.sub (.cons _ (.cons_cons _ (.cons_cons _ (.cons_cons _ (.cons_cons _ (.cons_cons _ (.cons_cons _ (.cons_cons _ (List.nil_sublist _)))))))))
     refine Tk 16 rfl hF (.bool (!(strEq (⟨(octs (noIp.cpy 0 (l))).toArray⟩ : ByteArray) (⟨l.toArray⟩ : ByteArray)))) (fun Wx _ => by kernel_rfl) hS ?_; clear hF; intro a hF
     refine Tk 17 rfl hF (.bool (!(strEq (⟨(octs (noIp.cpy 0 (l))).toArray⟩ : ByteArray) (⟨l.toArray⟩ : ByteArray)))) (fun Wx _ => by kernel_rfl) hS ?_; clear hF; intro a hF
     refine Tk 18 rfl hF (.bool (!(strEq (⟨(octs (noIp.cpy 0 (l))).toArray⟩ : ByteArray) (⟨l.toArray⟩ : ByteArray)))) (fun Wx _ => by kernel_rfl) hS ?_; clear hF; intro a hF
     replace hF := hF.know (d := 82) (v' := .bool false) (by kernel_rfl) (congrArg Value.bool (notF (strEq_iff.2 (Decidable.of_not_not (not_not_intro (show ((⟨(octs (noIp.cpy 0 (l))).toArray⟩ : ByteArray) = (⟨l.toArray⟩ : ByteArray)) from (by rw [hoc.1])))))))
     refine Tk 19 rfl hF (ipV (noIp.cpy 0 (l))) (fun Wx hO => x_load (p := .pointer (some ⟨b3, 0, none⟩)) rfl (by kernel_rfl) (run_loadA (k := 17) (by kernel_rfl) (by kernel_rfl) (hO.blk List.mem_cons_self) (by kernel_rfl) (by kernel_rfl))) hS ?_; clear hF; intro a hF
     refine A_one (i := 20) (listed' := #[true, true, true, true, true, true, true, true, true, true, true, true, true, true, true, true, true, true, true, true, true, false, false]) (by kernel_rfl) rfl (by kernel_rfl) ?_
     refine OpK.lc hF (ref02_Right (noIp.cpy 0 (l)) W16) ?_
     clear hF; rintro _ W17 a ⟨rfl, hk⟩ hF
     replace hO := hO.call0 hk; clear hk
     refine ⟨hO.sub (.cons _ (.cons_cons _ (.cons_cons _ (.cons_cons _ (.cons_cons _ (.cons_cons _ (.cons_cons _ (.cons_cons _ (List.nil_sublist _))))))))), ?_⟩
     have hS := hO.sub (.cons _ (.cons_cons _ (.cons_cons _ (.cons_cons _ (.cons_cons _ (.cons_cons _ (.cons_cons _ (.cons_cons _ (List.nil_sublist _)))))))))
     refine Tk 21 rfl hF (.bool (!(rightIp (noIp.cpy 0 (l))))) (fun Wx _ => by kernel_rfl) hS ?_; clear hF; intro a hF
     refine Tk 22 rfl hF (.bool (!(rightIp (noIp.cpy 0 (l))))) (fun Wx _ => by kernel_rfl) hS ?_; clear hF; intro a hF
     refine A_done (by kernel_rfl) ?_
     refine hK12 _ _ ?_
     replace hF := hF.know (d := 86) (v' := .bool false) (by kernel_rfl) (congrArg Value.bool (notF (show (rightIp (noIp.cpy 0 (l))) = true from hoc.2)))
     refine cond_f hF (by kernel_rfl) (by kernel_rfl) ?_
     refine wp_skip ?_
     refine hK10 _ _ ?_
     refine wp_seq_k fun K13 hK13 => ?_
     refine wp_region_lit ?_
     refine Vp hF (.pointer (some ⟨b2, 0, none⟩)) ?_; clear hF; intro a hF
     refine Vr hF (.int .u8 ((f0.toNat : Int))) (x_load (p := .pointer (some ⟨b2, 0, none⟩)) rfl (by kernel_rfl) (run_load1 (by kernel_rfl) ((hO.cell (List.mem_cons_of_mem _ (List.mem_cons_of_mem _ (List.mem_cons_of_mem _ (List.mem_cons_of_mem _ (List.mem_cons_of_mem _ (List.mem_cons_of_mem _ List.mem_cons_self))))))).trans (by kernel_rfl)))) ?_; clear hF; intro a hF
     refine Vp hF (.pointer (some ⟨b2, 1, none⟩)) ?_; clear hF; intro a hF
     refine Vr hF (.int .u8 ((f1.toNat : Int))) (x_load (p := .pointer (some ⟨b2, 1, none⟩)) rfl (by kernel_rfl) (run_load1 (by kernel_rfl) ((hO.cell (List.mem_cons_of_mem _ (List.mem_cons_of_mem _ (List.mem_cons_of_mem _ (List.mem_cons_of_mem _ (List.mem_cons_of_mem _ (List.mem_cons_of_mem _ List.mem_cons_self))))))).trans (by kernel_rfl)))) ?_; clear hF; intro a hF
     refine Vp hF (.pointer (some ⟨b2, 2, none⟩)) ?_; clear hF; intro a hF
     refine Vr hF (.int .u8 ((f2.toNat : Int))) (x_load (p := .pointer (some ⟨b2, 2, none⟩)) rfl (by kernel_rfl) (run_load1 (by kernel_rfl) ((hO.cell (List.mem_cons_of_mem _ (List.mem_cons_of_mem _ (List.mem_cons_of_mem _ (List.mem_cons_of_mem _ (List.mem_cons_of_mem _ (List.mem_cons_of_mem _ List.mem_cons_self))))))).trans (by kernel_rfl)))) ?_; clear hF; intro a hF
     refine Vp hF (.pointer (some ⟨b2, 3, none⟩)) ?_; clear hF; intro a hF
     refine Vr hF (.int .u8 ((f3.toNat : Int))) (x_load (p := .pointer (some ⟨b2, 3, none⟩)) rfl (by kernel_rfl) (run_load1 (by kernel_rfl) ((hO.cell (List.mem_cons_of_mem _ (List.mem_cons_of_mem _ (List.mem_cons_of_mem _ (List.mem_cons_of_mem _ (List.mem_cons_of_mem _ (List.mem_cons_of_mem _ List.mem_cons_self))))))).trans (by kernel_rfl)))) ?_; clear hF; intro a hF
     refine Lc hF (addr_Four f0 f1 f2 f3 W17) ?_
     clear hF; rintro _ W18 a ⟨rfl, hk⟩ hF
     replace hO := hO.call0 hk; clear hk
     refine L_new hF hO (by kernel_rfl) (by kernel_rfl) (vf := fun b => .pointer (some ⟨b, 0, none⟩)) (ob := .cells #[.bool false, .int .u8 0, .int .u8 0, .int .u8 0, .int .u8 0, .int .u8 0, .int .u8 0, .int .u8 0, .int .u8 0, .int .u8 0, .int .u8 0, .int .u8 0, .int .u8 0, .int .u8 0, .int .u8 0, .int .u8 0, .int .u8 0] 33) (by kernel_rfl) (by kernel_rfl) ?_
     clear hF hO; intro b4 W19 a hO hF
     obtain ⟨W20, hst, hO1⟩ := run_storeAt (P := Tryz.prog) (k := 17) (T := 33) (off := 0) (v := .agg #[.bool false, .int .u8 ((f0.toNat : Int)), .int .u8 ((f1.toNat : Int)), .int .u8 ((f2.toNat : Int)), .int .u8 ((f3.toNat : Int)), .int .u8 0, .int .u8 0, .int .u8 0, .int .u8 0, .int .u8 0, .int .u8 0, .int .u8 0, .int .u8 0, .int .u8 0, .int .u8 0, .int .u8 0, .int .u8 0]) (cs := #[.bool false, .int .u8 0, .int .u8 0, .int .u8 0, .int .u8 0, .int .u8 0, .int .u8 0, .int .u8 0, .int .u8 0, .int .u8 0, .int .u8 0, .int .u8 0, .int .u8 0, .int .u8 0, .int .u8 0, .int .u8 0, .int .u8 0]) (cs' := #[.bool false, .int .u8 ((f0.toNat : Int)), .int .u8 ((f1.toNat : Int)), .int .u8 ((f2.toNat : Int)), .int .u8 ((f3.toNat : Int)), .int .u8 0, .int .u8 0, .int .u8 0, .int .u8 0, .int .u8 0, .int .u8 0, .int .u8 0, .int .u8 0, .int .u8 0, .int .u8 0, .int .u8 0, .int .u8 0]) hO (by kernel_rfl) (by kernel_rfl) (by kernel_rfl) (Nat.le_of_ble_eq_true (by kernel_rfl)) (by kernel_rfl) (.head _)
     refine L_skip hF (by kernel_rfl) (by kernel_rfl) (x_store (p := .pointer (some ⟨b4, 0, none⟩)) (v := .agg #[.bool false, .int .u8 ((f0.toNat : Int)), .int .u8 ((f1.toNat : Int)), .int .u8 ((f2.toNat : Int)), .int .u8 ((f3.toNat : Int)), .int .u8 0, .int .u8 0, .int .u8 0, .int .u8 0, .int .u8 0, .int .u8 0, .int .u8 0, .int .u8 0, .int .u8 0, .int .u8 0, .int .u8 0, .int .u8 0]) rfl (by kernel_rfl) (by kernel_rfl) hst) (by kernel_rfl) ?_
     clear hst hF; intro a hF; replace hO := hO1; clear hO1
     refine L_nil ?_
     refine hK13 _ _ ?_
     refine wp_seq_k fun K14 hK14 => ?_
     refine wp_region_lit ?_
     refine Vp hF (.slice p l.length cap) ?_; clear hF; intro a hF
     refine Lc hF (oct_At (p) cap (l) W20 (hl.own hO) (by omega)) ?_
     clear hF; rintro _ W21 a ⟨c1, q7, qc6, rfl, hk⟩ hF
     replace hO := hO.call2 hk; clear hk
     refine Vp hF (.slice p l.length cap) ?_; clear hF; intro a hF
     refine Vp hF (.agg #[.slice p l.length cap, .int .i64 0, .int .i64 0]) ?_; clear hF; intro a hF
     refine L_new hF hO (by kernel_rfl) (by kernel_rfl) (vf := fun b => .pointer (some ⟨b, 0, none⟩)) (ob := .cells #[.slice p l.length cap, .int .i64 0, .int .i64 0] 52) (by kernel_rfl) (by kernel_rfl) ?_
     clear hF hO; intro b5 W22 a hO hF
     refine Vp hF (.pointer (some ⟨c1, 0, none⟩)) ?_; clear hF; intro a hF
     refine Vp hF (.pointer (some ⟨b5, 0, none⟩)) ?_; clear hF; intro a hF
     refine L_nil ?_
     refine hK14 _ _ ?_
     refine wp_seq_k fun K15 hK15 => ?_
     refine wp_region_lit ?_
     refine Vp hF (.pointer (some ⟨c1, 0, none⟩)) ?_; clear hF; intro a hF
     replace hO := hO.front (.tail (.tail (.head _)))
     replace hO := hO.front (.tail (.tail (.head _)))
     refine Lc hF (addr_Read_ok W _ I ea c1 q7 qc6 l 0 none W22 hO (by omega) (by omega) rfl hE h1 h6 h3) ?_
     clear hF; rintro _ W23 a ⟨rfl, hk⟩ hF; replace hO := hk; clear hk
     refine L_new hF hO (by kernel_rfl) (by kernel_rfl) (vf := fun b => .pointer (some ⟨b, 0, none⟩)) (ob := .cells #[.bool false, .int .u8 0, .int .u8 0, .int .u8 0, .int .u8 0, .int .u8 0, .int .u8 0, .int .u8 0, .int .u8 0, .int .u8 0, .int .u8 0, .int .u8 0, .int .u8 0, .int .u8 0, .int .u8 0, .int .u8 0, .int .u8 0] 33) (by kernel_rfl) (by kernel_rfl) ?_
     clear hF hO; intro b6 W24 a hO hF
     obtain ⟨W25, hst, hO1⟩ := run_storeAt (P := Tryz.prog) (k := 17) (T := 33) (off := 0) (v := ipV ((readIp l 0).1)) (cs := #[.bool false, .int .u8 0, .int .u8 0, .int .u8 0, .int .u8 0, .int .u8 0, .int .u8 0, .int .u8 0, .int .u8 0, .int .u8 0, .int .u8 0, .int .u8 0, .int .u8 0, .int .u8 0, .int .u8 0, .int .u8 0, .int .u8 0]) (cs' := (ipL ((readIp l 0).1)).toArray) hO (by kernel_rfl) (by kernel_rfl) (by kernel_rfl) (Nat.le_of_ble_eq_true (by kernel_rfl)) (by kernel_rfl) (.head _)
     refine L_skip hF (by kernel_rfl) (by kernel_rfl) (x_store (p := .pointer (some ⟨b6, 0, none⟩)) (v := ipV ((readIp l 0).1)) rfl (by kernel_rfl) (by kernel_rfl) hst) (by kernel_rfl) ?_
     clear hst hF; intro a hF; replace hO := hO1; clear hO1
     refine L_nil ?_
     refine hK15 _ _ ?_
     refine wp_seq_k fun K16 hK16 => ?_
     refine A_start (fun Wx => Own W noX [.blk b6 (.cells (ipL ((readIp l 0).1)).toArray 33 (0, 0)), rowL u8L 1 5 q7 qc6 l, .blk b4 (.cells #[.bool false, .int .u8 ((f0.toNat : Int)), .int .u8 ((f1.toNat : Int)), .int .u8 ((f2.toNat : Int)), .int .u8 ((f3.toNat : Int)), .int .u8 0, .int .u8 0, .int .u8 0, .int .u8 0, .int .u8 0, .int .u8 0, .int .u8 0, .int .u8 0, .int .u8 0, .int .u8 0, .int .u8 0, .int .u8 0] 33 (0, 0)), readL u8L q6 (octs (noIp.cpy 0 (l))), .blk b3 (.cells (ipL (noIp.cpy 0 (l))).toArray 33 (0, 0)), rowL u8L 1 5 q5 qc4 (putIp xa), rowL u8L 1 5 q4 qc3 (putIp xa), readL u8L q3 (octs xa), rowL u8L 1 5 q2 qc1 (octs xa), .blk b2 (.cells #[.int .u8 ((f0.toNat : Int)), .int .u8 ((f1.toNat : Int)), .int .u8 ((f2.toNat : Int)), .int .u8 ((f3.toNat : Int))] 59 (0, 0)), .blk b1 (.cells (ipL xa).toArray 33 (0, 0))] Wx) (by kernel_rfl) ?_
     replace hO := hO.drewN 1
     generalize hWd : ({ W25 with drawn := W25.drawn + 1 } : World) = W25_d at hO ⊢; clear hWd
     have hS := hO.sub (.cons_cons _ (.cons _ (.cons_cons _ (.cons _ (.cons_cons _ (.cons_cons _ (.cons_cons _ (.cons_cons _ (.cons_cons _ (.cons_cons _ (.cons_cons _ (.cons_cons _ (.cons_cons _ (List.nil_sublist _))))))))))))))
     refine Tk 0 rfl hF (.pointer (some ⟨b4, 0, none⟩)) (fun Wx _ => by kernel_rfl) hS ?_; clear hF; intro a hF
     refine Tk 1 rfl hF (.bool false) (fun Wx hO => x_load (p := .pointer (some ⟨b4, 0, none⟩)) rfl (by kernel_rfl) (run_load1 (by kernel_rfl) ((hO.cell (List.mem_cons_of_mem _ (List.mem_cons_of_mem _ List.mem_cons_self))).trans (by kernel_rfl)))) hS ?_; clear hF; intro a hF
     refine Tk 2 rfl hF (.bool true) (fun Wx _ => by kernel_rfl) hS ?_; clear hF; intro a hF
     refine Tk 3 rfl hF (.bool true) (fun Wx _ => by kernel_rfl) hS ?_; clear hF; intro a hF
     refine Tk 4 rfl hF (.agg #[.bool false, .int .u8 ((f0.toNat : Int)), .int .u8 ((f1.toNat : Int)), .int .u8 ((f2.toNat : Int)), .int .u8 ((f3.toNat : Int)), .int .u8 0, .int .u8 0, .int .u8 0, .int .u8 0, .int .u8 0, .int .u8 0, .int .u8 0, .int .u8 0, .int .u8 0, .int .u8 0, .int .u8 0, .int .u8 0]) (fun Wx hO => x_load (p := .pointer (some ⟨b4, 0, none⟩)) rfl (by kernel_rfl) (run_loadA (k := 17) (by kernel_rfl) (by kernel_rfl) (hO.blk (List.mem_cons_of_mem _ (List.mem_cons_of_mem _ List.mem_cons_self))) (by kernel_rfl) (by kernel_rfl))) hS ?_; clear hF; intro a hF
     refine Tk 7 rfl hF (.slice (some ⟨b2, 0, none⟩) 4 4) (fun Wx _ => (x_slArr (b := b2) (off := 0) (n := 4) (elem := 5) (lo := 0) (hi := 4) rfl (by kernel_rfl) (by kernel_rfl) (by kernel_rfl) rfl rfl (by omega) (by omega) (by omega) (by kernel_rfl) (by first | rfl | omega) (by first | rfl | omega))) hS ?_; clear hF; intro a hF
     refine A_cut (fun a Wx => ∃ (q8 : Option Addr), Fr 143 a [(6, .bool false), (9, .pointer (some ⟨b4, 0, none⟩)), (10, .pointer (some ⟨c1, 0, none⟩)), (11, .pointer (some ⟨b5, 0, none⟩)), (12, .pointer (some ⟨b6, 0, none⟩)), (106, .bool true), (109, .string (⟨(octs (⟨false, f0, f1, f2, f3, 0, 0, 0, 0, 0, 0, 0, 0, 0, 0, 0, 0⟩ : Ip)).toArray⟩ : ByteArray)), (111, .string (⟨([f0, f1, f2, f3] : List UInt8).toArray⟩ : ByteArray))] ∧ Own W noX [readL u8L q8 (octs (⟨false, f0, f1, f2, f3, 0, 0, 0, 0, 0, 0, 0, 0, 0, 0, 0, 0⟩ : Ip)), .blk b6 (.cells (ipL ((readIp l 0).1)).toArray 33 (0, 0)), .blk c1 (.cells #[.slice q7 l.length qc6, .int .i64 (((readIp l 0).2.1 : Int)), eV ea ((readIp l 0).2.2)] 113 (0, 0)), rowL u8L 1 5 q7 qc6 l, .blk b5 (.cells #[.slice p l.length cap, .int .i64 0, .int .i64 0] 52 (0, 0)), .blk b4 (.cells #[.bool false, .int .u8 ((f0.toNat : Int)), .int .u8 ((f1.toNat : Int)), .int .u8 ((f2.toNat : Int)), .int .u8 ((f3.toNat : Int)), .int .u8 0, .int .u8 0, .int .u8 0, .int .u8 0, .int .u8 0, .int .u8 0, .int .u8 0, .int .u8 0, .int .u8 0, .int .u8 0, .int .u8 0, .int .u8 0] 33 (0, 0)), readL u8L q6 (octs (noIp.cpy 0 (l))), .blk b3 (.cells (ipL (noIp.cpy 0 (l))).toArray 33 (0, 0)), rowL u8L 1 5 q5 qc4 (putIp xa), rowL u8L 1 5 q4 qc3 (putIp xa), readL u8L q3 (octs xa), rowL u8L 1 5 q2 qc1 (octs xa), .blk b2 (.cells #[.int .u8 ((f0.toNat : Int)), .int .u8 ((f1.toNat : Int)), .int .u8 ((f2.toNat : Int)), .int .u8 ((f3.toNat : Int))] 59 (0, 0)), .blk b1 (.cells (ipL xa).toArray 33 (0, 0))] Wx) (fuel := 32) (listed := #[true, true, true, true, true, true, true, true, true, false, false, false, false, false, false, false, false, false, false, false, false, false, false, false, false, false, false, false, false, false, false, false, false, false, false, false, false, false, false, false, false]) ?_ ?_
     ·
      clear hF hO; rintro a W28 ⟨q8, hF, hO⟩
      have hS := hO.sub (.cons _ (.cons_cons _ (.cons _ (.cons_cons _ (.cons _ (.cons_cons _ (.cons_cons _ (.cons_cons _ (.cons_cons _ (.cons_cons _ (.cons_cons _ (.cons_cons _ (.cons_cons _ (.cons_cons _ (List.nil_sublist _)))))))))))))))
      refine Tk 9 rfl hF (.bool (strEq (⟨(octs (⟨false, f0, f1, f2, f3, 0, 0, 0, 0, 0, 0, 0, 0, 0, 0, 0, 0⟩ : Ip)).toArray⟩ : ByteArray) (⟨([f0, f1, f2, f3] : List UInt8).toArray⟩ : ByteArray))) (fun Wx _ => by kernel_rfl) hS ?_; clear hF; intro a hF
      refine Tk 10 rfl hF (.bool (strEq (⟨(octs (⟨false, f0, f1, f2, f3, 0, 0, 0, 0, 0, 0, 0, 0, 0, 0, 0, 0⟩ : Ip)).toArray⟩ : ByteArray) (⟨([f0, f1, f2, f3] : List UInt8).toArray⟩ : ByteArray))) (fun Wx _ => by kernel_rfl) hS ?_; clear hF; intro a hF
      refine Tk 11 rfl hF (.bool (strEq (⟨(octs (⟨false, f0, f1, f2, f3, 0, 0, 0, 0, 0, 0, 0, 0, 0, 0, 0, 0⟩ : Ip)).toArray⟩ : ByteArray) (⟨([f0, f1, f2, f3] : List UInt8).toArray⟩ : ByteArray))) (fun Wx _ => by kernel_rfl) hS ?_; clear hF; intro a hF
      replace hF := hF.know (d := 114) (v' := .bool true) (by kernel_rfl) (congrArg Value.bool (strEq_iff.2 (show (⟨(octs (⟨false, f0, f1, f2, f3, 0, 0, 0, 0, 0, 0, 0, 0, 0, 0, 0, 0⟩ : Ip)).toArray⟩ : ByteArray) = (⟨([f0, f1, f2, f3] : List UInt8).toArray⟩ : ByteArray) from (by rfl))))
      refine Tk 12 rfl hF (.agg #[.bool false, .int .u8 ((f0.toNat : Int)), .int .u8 ((f1.toNat : Int)), .int .u8 ((f2.toNat : Int)), .int .u8 ((f3.toNat : Int)), .int .u8 0, .int .u8 0, .int .u8 0, .int .u8 0, .int .u8 0, .int .u8 0, .int .u8 0, .int .u8 0, .int .u8 0, .int .u8 0, .int .u8 0, .int .u8 0]) (fun Wx hO => x_load (p := .pointer (some ⟨b4, 0, none⟩)) rfl (by kernel_rfl) (run_loadA (k := 17) (by kernel_rfl) (by kernel_rfl) (hO.blk (List.mem_cons_of_mem _ (List.mem_cons_of_mem _ List.mem_cons_self))) (by kernel_rfl) (by kernel_rfl))) hS ?_; clear hF; intro a hF
      refine A_one (i := 13) (listed' := #[true, true, true, true, true, true, true, true, true, true, true, true, true, true, false, false, false, false, false, false, false, false, false, false, false, false, false, false, false, false, false, false, false, false, false, false, false, false, false, false, false]) (by kernel_rfl) rfl (by kernel_rfl) ?_
      refine OpK.lc hF (ref02_Right (⟨false, f0, f1, f2, f3, 0, 0, 0, 0, 0, 0, 0, 0, 0, 0, 0, 0⟩ : Ip) W28) ?_
      clear hF; rintro _ W29 a ⟨rfl, hk⟩ hF
      replace hO := hO.call0 hk; clear hk
      refine ⟨hO.sub (.cons _ (.cons_cons _ (.cons _ (.cons_cons _ (.cons _ (.cons_cons _ (.cons_cons _ (.cons_cons _ (.cons_cons _ (.cons_cons _ (.cons_cons _ (.cons_cons _ (.cons_cons _ (.cons_cons _ (List.nil_sublist _))))))))))))))), ?_⟩
      have hS := hO.sub (.cons _ (.cons_cons _ (.cons _ (.cons_cons _ (.cons _ (.cons_cons _ (.cons_cons _ (.cons_cons _ (.cons_cons _ (.cons_cons _ (.cons_cons _ (.cons_cons _ (.cons_cons _ (.cons_cons _ (List.nil_sublist _)))))))))))))))
      refine Tk 14 rfl hF (.bool (rightIp (⟨false, f0, f1, f2, f3, 0, 0, 0, 0, 0, 0, 0, 0, 0, 0, 0, 0⟩ : Ip))) (fun Wx _ => by kernel_rfl) hS ?_; clear hF; intro a hF
      refine Tk 15 rfl hF (.bool (rightIp (⟨false, f0, f1, f2, f3, 0, 0, 0, 0, 0, 0, 0, 0, 0, 0, 0, 0⟩ : Ip))) (fun Wx _ => by kernel_rfl) hS ?_; clear hF; intro a hF
      replace hF := hF.know (d := 118) (v' := .bool true) (by kernel_rfl) (congrArg Value.bool (show (rightIp (⟨false, f0, f1, f2, f3, 0, 0, 0, 0, 0, 0, 0, 0, 0, 0, 0, 0⟩ : Ip)) = true from (by exact (octs_4 (l := [f0, f1, f2, f3]) rfl).2)))
      refine Tk 16 rfl hF (ipV ((readIp l 0).1)) (fun Wx hO => x_load (p := .pointer (some ⟨b6, 0, none⟩)) rfl (by kernel_rfl) (run_loadA (k := 17) (by kernel_rfl) (by kernel_rfl) (hO.blk List.mem_cons_self) (by kernel_rfl) (by kernel_rfl))) hS ?_; clear hF; intro a hF
      refine Tk 17 rfl hF (.pointer (some ⟨b5, 0, none⟩)) (fun Wx _ => by kernel_rfl) hS ?_; clear hF; intro a hF
      refine A_one (i := 18) (listed' := #[true, true, true, true, true, true, true, true, true, true, true, true, true, true, true, true, true, true, true, false, false, false, false, false, false, false, false, false, false, false, false, false, false, false, false, false, false, false, false, false, false]) (by kernel_rfl) rfl (by kernel_rfl) ?_
      replace hO := hO.front (.tail (.tail (.tail (.tail (.head _)))))
      refine OpK.lc hF (ref02_Read_ok W _ b5 p cap l 0 none W29 hO hl (by omega) (by omega) (by omega) rfl) ?_
      clear hF; rintro _ W30 a ⟨rfl, hk⟩ hF; replace hO := hk; clear hk
      replace hO := hO.unfront (.tail (.tail (.tail (.tail (.head _)))))
      refine ⟨hO.sub (.cons _ (.cons_cons _ (.cons _ (.cons_cons _ (.cons _ (.cons_cons _ (.cons_cons _ (.cons_cons _ (.cons_cons _ (.cons_cons _ (.cons_cons _ (.cons_cons _ (.cons_cons _ (.cons_cons _ (List.nil_sublist _))))))))))))))), ?_⟩
      have hS := hO.sub (.cons _ (.cons_cons _ (.cons _ (.cons_cons _ (.cons _ (.cons_cons _ (.cons_cons _ (.cons_cons _ (.cons_cons _ (.cons_cons _ (.cons_cons _ (.cons_cons _ (.cons_cons _ (.cons_cons _ (List.nil_sublist _)))))))))))))))
      refine Tk 19 rfl hF (.bool true) (fun Wx _ => (x_bool (x := decide (((readIp l 0).1) = ((readIp l 0).1))) (decide_eq_true rfl) (x_eqIp (a := ((readIp l 0).1)) (b := ((readIp l 0).1)) rfl (by kernel_rfl) (by kernel_rfl)))) hS ?_; clear hF; intro a hF
      refine Tk 20 rfl hF (.bool true) (fun Wx _ => by kernel_rfl) hS ?_; clear hF; intro a hF
      refine Tk 21 rfl hF (.bool true) (fun Wx _ => by kernel_rfl) hS ?_; clear hF; intro a hF
      refine Tk 22 rfl hF (.pointer (some ⟨c1, 0, none⟩)) (fun Wx _ => by kernel_rfl) hS ?_; clear hF; intro a hF
      refine Tk 24 rfl hF (.pointer (some ⟨b5, 0, none⟩)) (fun Wx _ => by kernel_rfl) hS ?_; clear hF; intro a hF
      refine Tk 25 rfl hF (.pointer (some ⟨b5, 0, none⟩)) (fun Wx _ => by kernel_rfl) hS ?_; clear hF; intro a hF
      refine Tk 26 rfl hF (.pointer (some ⟨b5, 1, none⟩)) (fun Wx _ => by kernel_rfl) hS ?_; clear hF; intro a hF
      refine A_cut (fun a Wx => Fr 143 a [(6, .bool false), (10, .pointer (some ⟨c1, 0, none⟩)), (11, .pointer (some ⟨b5, 0, none⟩)), (124, .bool true), (126, .int .i64 (((readIp l 0).2.1 : Int))), (130, .int .i64 (((readIp l 0).2.1 : Int)))] ∧ Own W noX [readL u8L q8 (octs (⟨false, f0, f1, f2, f3, 0, 0, 0, 0, 0, 0, 0, 0, 0, 0, 0, 0⟩ : Ip)), .blk b6 (.cells (ipL ((readIp l 0).1)).toArray 33 (0, 0)), .blk c1 (.cells #[.slice q7 l.length qc6, .int .i64 (((readIp l 0).2.1 : Int)), eV ea ((readIp l 0).2.2)] 113 (0, 0)), rowL u8L 1 5 q7 qc6 l, .blk b5 (.cells #[.slice p l.length cap, .int .i64 (((readIp l 0).2.1 : Int)), .int .i64 ((nE (readIp l 0).2.2))] 52 (0, 0)), .blk b4 (.cells #[.bool false, .int .u8 ((f0.toNat : Int)), .int .u8 ((f1.toNat : Int)), .int .u8 ((f2.toNat : Int)), .int .u8 ((f3.toNat : Int)), .int .u8 0, .int .u8 0, .int .u8 0, .int .u8 0, .int .u8 0, .int .u8 0, .int .u8 0, .int .u8 0, .int .u8 0, .int .u8 0, .int .u8 0, .int .u8 0] 33 (0, 0)), readL u8L q6 (octs (noIp.cpy 0 (l))), .blk b3 (.cells (ipL (noIp.cpy 0 (l))).toArray 33 (0, 0)), rowL u8L 1 5 q5 qc4 (putIp xa), rowL u8L 1 5 q4 qc3 (putIp xa), readL u8L q3 (octs xa), rowL u8L 1 5 q2 qc1 (octs xa), .blk b2 (.cells #[.int .u8 ((f0.toNat : Int)), .int .u8 ((f1.toNat : Int)), .int .u8 ((f2.toNat : Int)), .int .u8 ((f3.toNat : Int))] 59 (0, 0)), .blk b1 (.cells (ipL xa).toArray 33 (0, 0))] Wx) (fuel := 13) (listed := #[true, true, true, true, true, true, true, true, true, true, true, true, true, true, true, true, true, true, true, true, true, true, true, true, true, true, true, true, false, false, false, false, false, false, false, false, false, false, false, false, false]) ?_ ?_
      ·
       clear hF hO; rintro a W32 ⟨hF, hO⟩
       have hS := hO.sub (.cons _ (.cons_cons _ (.cons _ (.cons_cons _ (.cons _ (.cons_cons _ (.cons_cons _ (.cons_cons _ (.cons_cons _ (.cons_cons _ (.cons_cons _ (.cons_cons _ (.cons_cons _ (.cons_cons _ (List.nil_sublist _)))))))))))))))
       refine Tk 28 rfl hF (.bool true) (fun Wx _ => (x_bool (x := ((readIp l 0).2.1 : Int) == ((readIp l 0).2.1 : Int)) (beq_self_eq_true _) (by kernel_rfl))) hS ?_; clear hF; intro a hF
       refine Tk 29 rfl hF (.bool true) (fun Wx _ => by kernel_rfl) hS ?_; clear hF; intro a hF
       refine Tk 30 rfl hF (.bool true) (fun Wx _ => by kernel_rfl) hS ?_; clear hF; intro a hF
       refine Tk 31 rfl hF (.pointer (some ⟨c1, 0, none⟩)) (fun Wx _ => by kernel_rfl) hS ?_; clear hF; intro a hF
       refine Tk 34 rfl hF (.pointer (some ⟨b5, 0, none⟩)) (fun Wx _ => by kernel_rfl) hS ?_; clear hF; intro a hF
       refine Tk 35 rfl hF (.pointer (some ⟨b5, 0, none⟩)) (fun Wx _ => by kernel_rfl) hS ?_; clear hF; intro a hF
       refine Tk 36 rfl hF (.pointer (some ⟨b5, 2, none⟩)) (fun Wx _ => by kernel_rfl) hS ?_; clear hF; intro a hF
       refine A_cut (fun a Wx => Fr 143 a [(6, .bool false), (133, .bool true), (136, .int .i64 ((nE ((readIp l 0).2.2)))), (140, .int .i64 ((nE (readIp l 0).2.2)))] ∧ Own W noX [readL u8L q8 (octs (⟨false, f0, f1, f2, f3, 0, 0, 0, 0, 0, 0, 0, 0, 0, 0, 0, 0⟩ : Ip)), .blk b6 (.cells (ipL ((readIp l 0).1)).toArray 33 (0, 0)), .blk c1 (.cells #[.slice q7 l.length qc6, .int .i64 (((readIp l 0).2.1 : Int)), eV ea ((readIp l 0).2.2)] 113 (0, 0)), rowL u8L 1 5 q7 qc6 l, .blk b5 (.cells #[.slice p l.length cap, .int .i64 (((readIp l 0).2.1 : Int)), .int .i64 ((nE (readIp l 0).2.2))] 52 (0, 0)), .blk b4 (.cells #[.bool false, .int .u8 ((f0.toNat : Int)), .int .u8 ((f1.toNat : Int)), .int .u8 ((f2.toNat : Int)), .int .u8 ((f3.toNat : Int)), .int .u8 0, .int .u8 0, .int .u8 0, .int .u8 0, .int .u8 0, .int .u8 0, .int .u8 0, .int .u8 0, .int .u8 0, .int .u8 0, .int .u8 0, .int .u8 0] 33 (0, 0)), readL u8L q6 (octs (noIp.cpy 0 (l))), .blk b3 (.cells (ipL (noIp.cpy 0 (l))).toArray 33 (0, 0)), rowL u8L 1 5 q5 qc4 (putIp xa), rowL u8L 1 5 q4 qc3 (putIp xa), readL u8L q3 (octs xa), rowL u8L 1 5 q2 qc1 (octs xa), .blk b2 (.cells #[.int .u8 ((f0.toNat : Int)), .int .u8 ((f1.toNat : Int)), .int .u8 ((f2.toNat : Int)), .int .u8 ((f3.toNat : Int))] 59 (0, 0)), .blk b1 (.cells (ipL xa).toArray 33 (0, 0))] Wx) (fuel := 3) (listed := #[true, true, true, true, true, true, true, true, true, true, true, true, true, true, true, true, true, true, true, true, true, true, true, true, true, true, true, true, true, true, true, true, true, true, true, true, true, true, false, false, false]) ?_ ?_
       ·
        clear hF hO; rintro a W36 ⟨hF, hO⟩
        have hS := hO.sub (.cons _ (.cons_cons _ (.cons _ (.cons_cons _ (.cons _ (.cons_cons _ (.cons_cons _ (.cons_cons _ (.cons_cons _ (.cons_cons _ (.cons_cons _ (.cons_cons _ (.cons_cons _ (.cons_cons _ (List.nil_sublist _)))))))))))))))
        refine Tk 38 rfl hF (.bool ((nE ((readIp l 0).2.2)) == (nE (readIp l 0).2.2))) (fun Wx _ => by kernel_rfl) hS ?_; clear hF; intro a hF
        refine Tk 39 rfl hF (.bool ((nE ((readIp l 0).2.2)) == (nE (readIp l 0).2.2))) (fun Wx _ => by kernel_rfl) hS ?_; clear hF; intro a hF
        refine Tk 40 rfl hF (.bool ((nE ((readIp l 0).2.2)) == (nE (readIp l 0).2.2))) (fun Wx _ => by kernel_rfl) hS ?_; clear hF; intro a hF
        refine A_done (by kernel_rfl) ?_
        refine hK16 _ _ ?_
        refine wp_ret ?_
        refine ret1 hF (v := .bool ((nE ((readIp l 0).2.2)) == (nE (readIp l 0).2.2))) rfl (resT (by kernel_rfl)) (by refine ⟨?_, hO.nil⟩; first | rfl | exact congrArg Value.bool (beq_self_eq_true _) | (exfalso; simp_all; done)) .ret (.inl rfl)
       ·
        intro hcut9
        refine A_many [32, 37] (by kernel_rfl) rfl ⟨?_, ?_, trivial⟩
        ·
         refine A_br (listed' := #[true, true, true, true, true, true, true, true, true, true, true, true, true, true, true, true, true, true, true, true, true, true, true, true, true, true, true, true, true, true, true, true, true, false, true, true, true, false, false, false, false]) rfl (by kernel_rfl) ?_
         replace hO := hO.front (.tail (.tail (.tail (.head _))))
         replace hO := hO.front (.tail (.tail (.tail (.head _))))
         refine OpK.lc hF (cur_Err W _ I ea c1 q7 qc6 l ((readIp l 0).2.1) ((readIp l 0).2.2) W32 hO (by omega) (by omega)) ?_
         clear hF; rintro _ W37 a ⟨rfl, hk⟩ hF; replace hO := hk; clear hk
         replace hO := hO.front (.tail (.head _))
         replace hO := hO.unfront (.tail (.tail (.tail (.head _))))
         replace hO := hO.unfront (.tail (.tail (.head _)))
         refine ⟨hO.sub (.cons _ (.cons_cons _ (.cons _ (.cons_cons _ (.cons _ (.cons_cons _ (.cons_cons _ (.cons_cons _ (.cons_cons _ (.cons_cons _ (.cons_cons _ (.cons_cons _ (.cons_cons _ (.cons_cons _ (List.nil_sublist _))))))))))))))), ?_⟩
         refine A_cut (fun a Wx => Fr 143 a [(6, .bool false), (133, .bool true), (136, .int .i64 ((nE ((readIp l 0).2.2)))), (140, .int .i64 ((nE (readIp l 0).2.2)))] ∧ Own W noX [readL u8L q8 (octs (⟨false, f0, f1, f2, f3, 0, 0, 0, 0, 0, 0, 0, 0, 0, 0, 0, 0⟩ : Ip)), .blk b6 (.cells (ipL ((readIp l 0).1)).toArray 33 (0, 0)), .blk c1 (.cells #[.slice q7 l.length qc6, .int .i64 (((readIp l 0).2.1 : Int)), eV ea ((readIp l 0).2.2)] 113 (0, 0)), rowL u8L 1 5 q7 qc6 l, .blk b5 (.cells #[.slice p l.length cap, .int .i64 (((readIp l 0).2.1 : Int)), .int .i64 ((nE (readIp l 0).2.2))] 52 (0, 0)), .blk b4 (.cells #[.bool false, .int .u8 ((f0.toNat : Int)), .int .u8 ((f1.toNat : Int)), .int .u8 ((f2.toNat : Int)), .int .u8 ((f3.toNat : Int)), .int .u8 0, .int .u8 0, .int .u8 0, .int .u8 0, .int .u8 0, .int .u8 0, .int .u8 0, .int .u8 0, .int .u8 0, .int .u8 0, .int .u8 0, .int .u8 0] 33 (0, 0)), readL u8L q6 (octs (noIp.cpy 0 (l))), .blk b3 (.cells (ipL (noIp.cpy 0 (l))).toArray 33 (0, 0)), rowL u8L 1 5 q5 qc4 (putIp xa), rowL u8L 1 5 q4 qc3 (putIp xa), readL u8L q3 (octs xa), rowL u8L 1 5 q2 qc1 (octs xa), .blk b2 (.cells #[.int .u8 ((f0.toNat : Int)), .int .u8 ((f1.toNat : Int)), .int .u8 ((f2.toNat : Int)), .int .u8 ((f3.toNat : Int))] 59 (0, 0)), .blk b1 (.cells (ipL xa).toArray 33 (0, 0))] Wx) (fuel := 3) (listed := #[true, true, true, true, true, true, true, true, true, true, true, true, true, true, true, true, true, true, true, true, true, true, true, true, true, true, true, true, true, true, true, true, true, true, true, true, true, true, false, false, false]) ?_ ?_
         ·
          clear hF hO; rintro a W39 ⟨hF, hO⟩
          refine A_norm (listed' := #[true, true, true, true, true, true, true, true, true, true, true, true, true, true, true, true, true, true, true, true, true, true, true, true, true, true, true, true, true, true, true, true, true, true, true, true, true, true, false, false, false]) (by kernel_rfl) (hcut9 _ _ ⟨hF.restrict ⟨(by kernel_rfl), (by kernel_rfl), (by kernel_rfl), (by kernel_rfl), trivial⟩, (hO.sub (.cons_cons _ (.cons_cons _ (.cons_cons _ (.cons_cons _ (.cons_cons _ (.cons_cons _ (.cons_cons _ (.cons_cons _ (.cons_cons _ (.cons_cons _ (.cons_cons _ (.cons_cons _ (.cons_cons _ (.cons_cons _ (List.nil_sublist _))))))))))))))))⟩)
         ·
          intro hcut10
          refine A_many [33, 37] (by kernel_rfl) rfl ⟨?_, ?_, trivial⟩
          ·
           refine A_br (listed' := #[true, true, true, true, true, true, true, true, true, true, true, true, true, true, true, true, true, true, true, true, true, true, true, true, true, true, true, true, true, true, true, true, true, true, true, true, true, false, false, false, false]) rfl (by kernel_rfl) ?_
           refine OpK.lc hF (num_eV ea ((readIp l 0).2.2) W37 (hI ▸ hE.own hO) (by intro i hi; rcases her with e | e | e <;> rw [e] at hi <;> cases hi <;> decide)) ?_
           clear hF; rintro _ W40 a ⟨rfl, hk⟩ hF
           replace hO := hO.call0 hk; clear hk
           refine ⟨hO.sub (.cons _ (.cons_cons _ (.cons _ (.cons_cons _ (.cons _ (.cons_cons _ (.cons_cons _ (.cons_cons _ (.cons_cons _ (.cons_cons _ (.cons_cons _ (.cons_cons _ (.cons_cons _ (.cons_cons _ (List.nil_sublist _))))))))))))))), ?_⟩
           refine A_one (i := 37) (listed' := #[true, true, true, true, true, true, true, true, true, true, true, true, true, true, true, true, true, true, true, true, true, true, true, true, true, true, true, true, true, true, true, true, true, true, true, true, true, true, false, false, false]) (by kernel_rfl) rfl (by kernel_rfl) ?_
           refine OpK.vr hF (.int .i64 ((nE (readIp l 0).2.2))) (x_load (p := .pointer (some ⟨b5, 2, none⟩)) rfl (by kernel_rfl) (run_load1 (by kernel_rfl) ((hO.cell (List.mem_cons_of_mem _ (List.mem_cons_of_mem _ (List.mem_cons_of_mem _ (List.mem_cons_of_mem _ List.mem_cons_self))))).trans (by kernel_rfl)))) ?_; clear hF; intro a hF
           refine ⟨hO.sub (.cons _ (.cons_cons _ (.cons _ (.cons_cons _ (.cons _ (.cons_cons _ (.cons_cons _ (.cons_cons _ (.cons_cons _ (.cons_cons _ (.cons_cons _ (.cons_cons _ (.cons_cons _ (.cons_cons _ (List.nil_sublist _))))))))))))))), ?_⟩
           refine A_norm (listed' := #[true, true, true, true, true, true, true, true, true, true, true, true, true, true, true, true, true, true, true, true, true, true, true, true, true, true, true, true, true, true, true, true, true, true, true, true, true, true, false, false, false]) (by kernel_rfl) (hcut10 _ _ ⟨hF.restrict ⟨(by kernel_rfl), (by kernel_rfl), (by kernel_rfl), (by kernel_rfl), trivial⟩, (hO.sub (.cons_cons _ (.cons_cons _ (.cons_cons _ (.cons_cons _ (.cons_cons _ (.cons_cons _ (.cons_cons _ (.cons_cons _ (.cons_cons _ (.cons_cons _ (.cons_cons _ (.cons_cons _ (.cons_cons _ (.cons_cons _ (List.nil_sublist _))))))))))))))))⟩)
          ·
           refine A_br (listed' := #[true, true, true, true, true, true, true, true, true, true, true, true, true, true, true, true, true, true, true, true, true, true, true, true, true, true, true, true, true, true, true, true, true, false, true, true, true, true, false, false, false]) rfl (by kernel_rfl) ?_
           refine OpK.vr hF (.int .i64 ((nE (readIp l 0).2.2))) (x_load (p := .pointer (some ⟨b5, 2, none⟩)) rfl (by kernel_rfl) (run_load1 (by kernel_rfl) ((hO.cell (List.mem_cons_of_mem _ (List.mem_cons_of_mem _ (List.mem_cons_of_mem _ (List.mem_cons_of_mem _ List.mem_cons_self))))).trans (by kernel_rfl)))) ?_; clear hF; intro a hF
           refine ⟨hO.sub (.cons _ (.cons_cons _ (.cons _ (.cons_cons _ (.cons _ (.cons_cons _ (.cons_cons _ (.cons_cons _ (.cons_cons _ (.cons_cons _ (.cons_cons _ (.cons_cons _ (.cons_cons _ (.cons_cons _ (List.nil_sublist _))))))))))))))), ?_⟩
           refine A_one (i := 33) (listed' := #[true, true, true, true, true, true, true, true, true, true, true, true, true, true, true, true, true, true, true, true, true, true, true, true, true, true, true, true, true, true, true, true, true, true, true, true, true, true, false, false, false]) (by kernel_rfl) rfl (by kernel_rfl) ?_
           refine OpK.lc hF (num_eV ea ((readIp l 0).2.2) W37 (hI ▸ hE.own hO) (by intro i hi; rcases her with e | e | e <;> rw [e] at hi <;> cases hi <;> decide)) ?_
           clear hF; rintro _ W41 a ⟨rfl, hk⟩ hF
           replace hO := hO.call0 hk; clear hk
           refine ⟨hO.sub (.cons _ (.cons_cons _ (.cons _ (.cons_cons _ (.cons _ (.cons_cons _ (.cons_cons _ (.cons_cons _ (.cons_cons _ (.cons_cons _ (.cons_cons _ (.cons_cons _ (.cons_cons _ (.cons_cons _ (List.nil_sublist _))))))))))))))), ?_⟩
           refine A_norm (listed' := #[true, true, true, true, true, true, true, true, true, true, true, true, true, true, true, true, true, true, true, true, true, true, true, true, true, true, true, true, true, true, true, true, true, true, true, true, true, true, false, false, false]) (by kernel_rfl) (hcut10 _ _ ⟨hF.restrict ⟨(by kernel_rfl), (by kernel_rfl), (by kernel_rfl), (by kernel_rfl), trivial⟩, (hO.sub (.cons_cons _ (.cons_cons _ (.cons_cons _ (.cons_cons _ (.cons_cons _ (.cons_cons _ (.cons_cons _ (.cons_cons _ (.cons_cons _ (.cons_cons _ (.cons_cons _ (.cons_cons _ (.cons_cons _ (.cons_cons _ (List.nil_sublist _))))))))))))))))⟩)
        ·
         refine A_br (listed' := #[true, true, true, true, true, true, true, true, true, true, true, true, true, true, true, true, true, true, true, true, true, true, true, true, true, true, true, true, true, true, true, true, false, false, true, true, true, true, false, false, false]) rfl (by kernel_rfl) ?_
         refine OpK.vr hF (.int .i64 ((nE (readIp l 0).2.2))) (x_load (p := .pointer (some ⟨b5, 2, none⟩)) rfl (by kernel_rfl) (run_load1 (by kernel_rfl) ((hO.cell (List.mem_cons_of_mem _ (List.mem_cons_of_mem _ (List.mem_cons_of_mem _ (List.mem_cons_of_mem _ List.mem_cons_self))))).trans (by kernel_rfl)))) ?_; clear hF; intro a hF
         refine ⟨hO.sub (.cons _ (.cons_cons _ (.cons _ (.cons_cons _ (.cons _ (.cons_cons _ (.cons_cons _ (.cons_cons _ (.cons_cons _ (.cons_cons _ (.cons_cons _ (.cons_cons _ (.cons_cons _ (.cons_cons _ (List.nil_sublist _))))))))))))))), ?_⟩
         refine A_one (i := 32) (listed' := #[true, true, true, true, true, true, true, true, true, true, true, true, true, true, true, true, true, true, true, true, true, true, true, true, true, true, true, true, true, true, true, true, true, false, true, true, true, true, false, false, false]) (by kernel_rfl) rfl (by kernel_rfl) ?_
         replace hO := hO.front (.tail (.tail (.tail (.head _))))
         replace hO := hO.front (.tail (.tail (.tail (.head _))))
         refine OpK.lc hF (cur_Err W _ I ea c1 q7 qc6 l ((readIp l 0).2.1) ((readIp l 0).2.2) W32 hO (by omega) (by omega)) ?_
         clear hF; rintro _ W42 a ⟨rfl, hk⟩ hF; replace hO := hk; clear hk
         replace hO := hO.front (.tail (.head _))
         replace hO := hO.unfront (.tail (.tail (.tail (.head _))))
         replace hO := hO.unfront (.tail (.tail (.head _)))
         refine ⟨hO.sub (.cons _ (.cons_cons _ (.cons _ (.cons_cons _ (.cons _ (.cons_cons _ (.cons_cons _ (.cons_cons _ (.cons_cons _ (.cons_cons _ (.cons_cons _ (.cons_cons _ (.cons_cons _ (.cons_cons _ (List.nil_sublist _))))))))))))))), ?_⟩
         refine A_one (i := 33) (listed' := #[true, true, true, true, true, true, true, true, true, true, true, true, true, true, true, true, true, true, true, true, true, true, true, true, true, true, true, true, true, true, true, true, true, true, true, true, true, true, false, false, false]) (by kernel_rfl) rfl (by kernel_rfl) ?_
         refine OpK.lc hF (num_eV ea ((readIp l 0).2.2) W42 (hI ▸ hE.own hO) (by intro i hi; rcases her with e | e | e <;> rw [e] at hi <;> cases hi <;> decide)) ?_
         clear hF; rintro _ W43 a ⟨rfl, hk⟩ hF
         replace hO := hO.call0 hk; clear hk
         refine ⟨hO.sub (.cons _ (.cons_cons _ (.cons _ (.cons_cons _ (.cons _ (.cons_cons _ (.cons_cons _ (.cons_cons _ (.cons_cons _ (.cons_cons _ (.cons_cons _ (.cons_cons _ (.cons_cons _ (.cons_cons _ (List.nil_sublist _))))))))))))))), ?_⟩
         refine A_norm (listed' := #[true, true, true, true, true, true, true, true, true, true, true, true, true, true, true, true, true, true, true, true, true, true, true, true, true, true, true, true, true, true, true, true, true, true, true, true, true, true, false, false, false]) (by kernel_rfl) (hcut9 _ _ ⟨hF.restrict ⟨(by kernel_rfl), (by kernel_rfl), (by kernel_rfl), (by kernel_rfl), trivial⟩, (hO.sub (.cons_cons _ (.cons_cons _ (.cons_cons _ (.cons_cons _ (.cons_cons _ (.cons_cons _ (.cons_cons _ (.cons_cons _ (.cons_cons _ (.cons_cons _ (.cons_cons _ (.cons_cons _ (.cons_cons _ (.cons_cons _ (List.nil_sublist _))))))))))))))))⟩)
      ·
       intro hcut7
       refine A_many [23, 27] (by kernel_rfl) rfl ⟨?_, ?_, trivial⟩
       ·
        refine A_br (listed' := #[true, true, true, true, true, true, true, true, true, true, true, true, true, true, true, true, true, true, true, true, true, true, true, true, true, true, true, false, false, false, false, false, false, false, false, false, false, false, false, false, false]) rfl (by kernel_rfl) ?_
        replace hO := hO.front (.tail (.tail (.tail (.head _))))
        replace hO := hO.front (.tail (.tail (.tail (.head _))))
        refine OpK.lc hF (cur_Place W _ I ea c1 q7 qc6 l ((readIp l 0).2.1) ((readIp l 0).2.2) W30 hO (by omega) (by omega)) ?_
        clear hF; rintro _ W44 a ⟨rfl, hk⟩ hF; replace hO := hk; clear hk
        replace hO := hO.front (.tail (.head _))
        replace hO := hO.unfront (.tail (.tail (.tail (.head _))))
        replace hO := hO.unfront (.tail (.tail (.head _)))
        refine ⟨hO.sub (.cons _ (.cons_cons _ (.cons _ (.cons_cons _ (.cons _ (.cons_cons _ (.cons_cons _ (.cons_cons _ (.cons_cons _ (.cons_cons _ (.cons_cons _ (.cons_cons _ (.cons_cons _ (.cons_cons _ (List.nil_sublist _))))))))))))))), ?_⟩
        refine A_one (i := 27) (listed' := #[true, true, true, true, true, true, true, true, true, true, true, true, true, true, true, true, true, true, true, true, true, true, true, true, true, true, true, true, false, false, false, false, false, false, false, false, false, false, false, false, false]) (by kernel_rfl) rfl (by kernel_rfl) ?_
        refine OpK.vr hF (.int .i64 (((readIp l 0).2.1 : Int))) (x_load (p := .pointer (some ⟨b5, 1, none⟩)) rfl (by kernel_rfl) (run_load1 (by kernel_rfl) ((hO.cell (List.mem_cons_of_mem _ (List.mem_cons_of_mem _ (List.mem_cons_of_mem _ (List.mem_cons_of_mem _ List.mem_cons_self))))).trans (by kernel_rfl)))) ?_; clear hF; intro a hF
        refine ⟨hO.sub (.cons _ (.cons_cons _ (.cons _ (.cons_cons _ (.cons _ (.cons_cons _ (.cons_cons _ (.cons_cons _ (.cons_cons _ (.cons_cons _ (.cons_cons _ (.cons_cons _ (.cons_cons _ (.cons_cons _ (List.nil_sublist _))))))))))))))), ?_⟩
        refine A_norm (listed' := #[true, true, true, true, true, true, true, true, true, true, true, true, true, true, true, true, true, true, true, true, true, true, true, true, true, true, true, true, false, false, false, false, false, false, false, false, false, false, false, false, false]) (by kernel_rfl) (hcut7 _ _ ⟨hF.restrict ⟨(by kernel_rfl), (by kernel_rfl), (by kernel_rfl), (by kernel_rfl), (by kernel_rfl), (by kernel_rfl), trivial⟩, (hO.sub (.cons_cons _ (.cons_cons _ (.cons_cons _ (.cons_cons _ (.cons_cons _ (.cons_cons _ (.cons_cons _ (.cons_cons _ (.cons_cons _ (.cons_cons _ (.cons_cons _ (.cons_cons _ (.cons_cons _ (.cons_cons _ (List.nil_sublist _))))))))))))))))⟩)
       ·
        refine A_br (listed' := #[true, true, true, true, true, true, true, true, true, true, true, true, true, true, true, true, true, true, true, true, true, true, true, false, true, true, true, true, false, false, false, false, false, false, false, false, false, false, false, false, false]) rfl (by kernel_rfl) ?_
        refine OpK.vr hF (.int .i64 (((readIp l 0).2.1 : Int))) (x_load (p := .pointer (some ⟨b5, 1, none⟩)) rfl (by kernel_rfl) (run_load1 (by kernel_rfl) ((hO.cell (List.mem_cons_of_mem _ (List.mem_cons_of_mem _ (List.mem_cons_of_mem _ (List.mem_cons_of_mem _ List.mem_cons_self))))).trans (by kernel_rfl)))) ?_; clear hF; intro a hF
        refine ⟨hO.sub (.cons _ (.cons_cons _ (.cons _ (.cons_cons _ (.cons _ (.cons_cons _ (.cons_cons _ (.cons_cons _ (.cons_cons _ (.cons_cons _ (.cons_cons _ (.cons_cons _ (.cons_cons _ (.cons_cons _ (List.nil_sublist _))))))))))))))), ?_⟩
        refine A_one (i := 23) (listed' := #[true, true, true, true, true, true, true, true, true, true, true, true, true, true, true, true, true, true, true, true, true, true, true, true, true, true, true, true, false, false, false, false, false, false, false, false, false, false, false, false, false]) (by kernel_rfl) rfl (by kernel_rfl) ?_
        replace hO := hO.front (.tail (.tail (.tail (.head _))))
        replace hO := hO.front (.tail (.tail (.tail (.head _))))
        refine OpK.lc hF (cur_Place W _ I ea c1 q7 qc6 l ((readIp l 0).2.1) ((readIp l 0).2.2) W30 hO (by omega) (by omega)) ?_
        clear hF; rintro _ W45 a ⟨rfl, hk⟩ hF; replace hO := hk; clear hk
        replace hO := hO.front (.tail (.head _))
        replace hO := hO.unfront (.tail (.tail (.tail (.head _))))
        replace hO := hO.unfront (.tail (.tail (.head _)))
        refine ⟨hO.sub (.cons _ (.cons_cons _ (.cons _ (.cons_cons _ (.cons _ (.cons_cons _ (.cons_cons _ (.cons_cons _ (.cons_cons _ (.cons_cons _ (.cons_cons _ (.cons_cons _ (.cons_cons _ (.cons_cons _ (List.nil_sublist _))))))))))))))), ?_⟩
        refine A_norm (listed' := #[true, true, true, true, true, true, true, true, true, true, true, true, true, true, true, true, true, true, true, true, true, true, true, true, true, true, true, true, false, false, false, false, false, false, false, false, false, false, false, false, false]) (by kernel_rfl) (hcut7 _ _ ⟨hF.restrict ⟨(by kernel_rfl), (by kernel_rfl), (by kernel_rfl), (by kernel_rfl), (by kernel_rfl), (by kernel_rfl), trivial⟩, (hO.sub (.cons_cons _ (.cons_cons _ (.cons_cons _ (.cons_cons _ (.cons_cons _ (.cons_cons _ (.cons_cons _ (.cons_cons _ (.cons_cons _ (.cons_cons _ (.cons_cons _ (.cons_cons _ (.cons_cons _ (.cons_cons _ (List.nil_sublist _))))))))))))))))⟩)
     ·
      intro hcut6
      refine A_many [5, 8] (by kernel_rfl) rfl ⟨?_, ?_, trivial⟩
      ·
       refine A_br (listed' := #[true, true, true, true, true, true, false, true, false, false, false, false, false, false, false, false, false, false, false, false, false, false, false, false, false, false, false, false, false, false, false, false, false, false, false, false, false, false, false, false, false]) rfl (by kernel_rfl) ?_
       refine OpK.lc hF (ref02_Bytes (⟨false, f0, f1, f2, f3, 0, 0, 0, 0, 0, 0, 0, 0, 0, 0, 0, 0⟩ : Ip) W25_d) ?_
       clear hF; rintro _ W46 a ⟨q9, qc8, rfl, hk⟩ hF
       replace hO := hO.call1 hk; clear hk
       refine ⟨hO.sub (.cons _ (.cons_cons _ (.cons _ (.cons_cons _ (.cons _ (.cons_cons _ (.cons_cons _ (.cons_cons _ (.cons_cons _ (.cons_cons _ (.cons_cons _ (.cons_cons _ (.cons_cons _ (.cons_cons _ (List.nil_sublist _))))))))))))))), ?_⟩
       refine A_cut (fun a Wx => Fr 143 a [(6, .bool false), (9, .pointer (some ⟨b4, 0, none⟩)), (10, .pointer (some ⟨c1, 0, none⟩)), (11, .pointer (some ⟨b5, 0, none⟩)), (12, .pointer (some ⟨b6, 0, none⟩)), (106, .bool true), (109, .string (⟨(octs (⟨false, f0, f1, f2, f3, 0, 0, 0, 0, 0, 0, 0, 0, 0, 0, 0, 0⟩ : Ip)).toArray⟩ : ByteArray)), (111, .string (⟨([f0, f1, f2, f3] : List UInt8).toArray⟩ : ByteArray))] ∧ Own W noX [readL u8L q9 (octs (⟨false, f0, f1, f2, f3, 0, 0, 0, 0, 0, 0, 0, 0, 0, 0, 0, 0⟩ : Ip)), .blk b6 (.cells (ipL ((readIp l 0).1)).toArray 33 (0, 0)), .blk c1 (.cells #[.slice q7 l.length qc6, .int .i64 (((readIp l 0).2.1 : Int)), eV ea ((readIp l 0).2.2)] 113 (0, 0)), rowL u8L 1 5 q7 qc6 l, .blk b5 (.cells #[.slice p l.length cap, .int .i64 0, .int .i64 0] 52 (0, 0)), .blk b4 (.cells #[.bool false, .int .u8 ((f0.toNat : Int)), .int .u8 ((f1.toNat : Int)), .int .u8 ((f2.toNat : Int)), .int .u8 ((f3.toNat : Int)), .int .u8 0, .int .u8 0, .int .u8 0, .int .u8 0, .int .u8 0, .int .u8 0, .int .u8 0, .int .u8 0, .int .u8 0, .int .u8 0, .int .u8 0, .int .u8 0] 33 (0, 0)), readL u8L q6 (octs (noIp.cpy 0 (l))), .blk b3 (.cells (ipL (noIp.cpy 0 (l))).toArray 33 (0, 0)), rowL u8L 1 5 q5 qc4 (putIp xa), rowL u8L 1 5 q4 qc3 (putIp xa), readL u8L q3 (octs xa), rowL u8L 1 5 q2 qc1 (octs xa), .blk b2 (.cells #[.int .u8 ((f0.toNat : Int)), .int .u8 ((f1.toNat : Int)), .int .u8 ((f2.toNat : Int)), .int .u8 ((f3.toNat : Int))] 59 (0, 0)), .blk b1 (.cells (ipL xa).toArray 33 (0, 0))] Wx) (fuel := 32) (listed := #[true, true, true, true, true, true, true, true, true, false, false, false, false, false, false, false, false, false, false, false, false, false, false, false, false, false, false, false, false, false, false, false, false, false, false, false, false, false, false, false, false]) ?_ ?_
       ·
        clear hF hO; rintro a W47 ⟨hF, hO⟩
        refine A_norm (listed' := #[true, true, true, true, true, true, true, true, true, false, false, false, false, false, false, false, false, false, false, false, false, false, false, false, false, false, false, false, false, false, false, false, false, false, false, false, false, false, false, false, false]) (by kernel_rfl) (hcut6 _ _ ⟨q9, hF.restrict ⟨(by kernel_rfl), (by kernel_rfl), (by kernel_rfl), (by kernel_rfl), (by kernel_rfl), (by kernel_rfl), (by kernel_rfl), (by kernel_rfl), trivial⟩, (hO.sub (.cons_cons _ (.cons_cons _ (.cons_cons _ (.cons_cons _ (.cons_cons _ (.cons_cons _ (.cons_cons _ (.cons_cons _ (.cons_cons _ (.cons_cons _ (.cons_cons _ (.cons_cons _ (.cons_cons _ (.cons_cons _ (List.nil_sublist _))))))))))))))))⟩)
       ·
        intro hcut11
        refine A_many [6, 8] (by kernel_rfl) rfl ⟨?_, ?_, trivial⟩
        ·
         refine A_br (listed' := #[true, true, true, true, true, true, true, true, false, false, false, false, false, false, false, false, false, false, false, false, false, false, false, false, false, false, false, false, false, false, false, false, false, false, false, false, false, false, false, false, false]) rfl (by kernel_rfl) ?_
         refine OpK.vr hF (.string (⟨(octs (⟨false, f0, f1, f2, f3, 0, 0, 0, 0, 0, 0, 0, 0, 0, 0, 0, 0⟩ : Ip)).toArray⟩ : ByteArray)) (x_conv (run_bytes_string (P := Tryz.prog) (src := 46) (dst := 9) (e := 5) (p := q9) (l := octs (⟨false, f0, f1, f2, f3, 0, 0, 0, 0, 0, 0, 0, 0, 0, 0, 0, 0⟩ : Ip)) (c := qc8) (hO.read List.mem_cons_self) Tryz.underlying46 Tryz.underlying5 Tryz.underlying9) rfl (by kernel_rfl)) ?_; clear hF; intro a hF
         refine ⟨hO.sub (.cons _ (.cons_cons _ (.cons _ (.cons_cons _ (.cons _ (.cons_cons _ (.cons_cons _ (.cons_cons _ (.cons_cons _ (.cons_cons _ (.cons_cons _ (.cons_cons _ (.cons_cons _ (.cons_cons _ (List.nil_sublist _))))))))))))))), ?_⟩
         refine A_one (i := 8) (listed' := #[true, true, true, true, true, true, true, true, true, false, false, false, false, false, false, false, false, false, false, false, false, false, false, false, false, false, false, false, false, false, false, false, false, false, false, false, false, false, false, false, false]) (by kernel_rfl) rfl (by kernel_rfl) ?_
         refine OpK.vr hF (.string (⟨([f0, f1, f2, f3] : List UInt8).toArray⟩ : ByteArray)) (x_conv (run_bytes_string (P := Tryz.prog) (src := 46) (dst := 9) (e := 5) (p := some ⟨b2, 0, none⟩) (l := ([f0, f1, f2, f3] : List UInt8)) (c := 4) (SlAt.blk hO (List.mem_cons_of_mem _ (List.mem_cons_of_mem _ (List.mem_cons_of_mem _ (List.mem_cons_of_mem _ (List.mem_cons_of_mem _ (List.mem_cons_of_mem _ (List.mem_cons_of_mem _ (List.mem_cons_of_mem _ (List.mem_cons_of_mem _ (List.mem_cons_of_mem _ (List.mem_cons_of_mem _ (List.mem_cons_of_mem _ List.mem_cons_self)))))))))))) (by kernel_rfl)) Tryz.underlying46 Tryz.underlying5 Tryz.underlying9) rfl (by kernel_rfl)) ?_; clear hF; intro a hF
         refine ⟨hO.sub (.cons _ (.cons_cons _ (.cons _ (.cons_cons _ (.cons _ (.cons_cons _ (.cons_cons _ (.cons_cons _ (.cons_cons _ (.cons_cons _ (.cons_cons _ (.cons_cons _ (.cons_cons _ (.cons_cons _ (List.nil_sublist _))))))))))))))), ?_⟩
         refine A_norm (listed' := #[true, true, true, true, true, true, true, true, true, false, false, false, false, false, false, false, false, false, false, false, false, false, false, false, false, false, false, false, false, false, false, false, false, false, false, false, false, false, false, false, false]) (by kernel_rfl) (hcut11 _ _ ⟨hF.restrict ⟨(by kernel_rfl), (by kernel_rfl), (by kernel_rfl), (by kernel_rfl), (by kernel_rfl), (by kernel_rfl), (by kernel_rfl), (by kernel_rfl), trivial⟩, (hO.sub (.cons_cons _ (.cons_cons _ (.cons_cons _ (.cons_cons _ (.cons_cons _ (.cons_cons _ (.cons_cons _ (.cons_cons _ (.cons_cons _ (.cons_cons _ (.cons_cons _ (.cons_cons _ (.cons_cons _ (.cons_cons _ (List.nil_sublist _))))))))))))))))⟩)
        ·
         refine A_br (listed' := #[true, true, true, true, true, true, false, true, true, false, false, false, false, false, false, false, false, false, false, false, false, false, false, false, false, false, false, false, false, false, false, false, false, false, false, false, false, false, false, false, false]) rfl (by kernel_rfl) ?_
         refine OpK.vr hF (.string (⟨([f0, f1, f2, f3] : List UInt8).toArray⟩ : ByteArray)) (x_conv (run_bytes_string (P := Tryz.prog) (src := 46) (dst := 9) (e := 5) (p := some ⟨b2, 0, none⟩) (l := ([f0, f1, f2, f3] : List UInt8)) (c := 4) (SlAt.blk hO (List.mem_cons_of_mem _ (List.mem_cons_of_mem _ (List.mem_cons_of_mem _ (List.mem_cons_of_mem _ (List.mem_cons_of_mem _ (List.mem_cons_of_mem _ (List.mem_cons_of_mem _ (List.mem_cons_of_mem _ (List.mem_cons_of_mem _ (List.mem_cons_of_mem _ (List.mem_cons_of_mem _ (List.mem_cons_of_mem _ List.mem_cons_self)))))))))))) (by kernel_rfl)) Tryz.underlying46 Tryz.underlying5 Tryz.underlying9) rfl (by kernel_rfl)) ?_; clear hF; intro a hF
         refine ⟨hO.sub (.cons _ (.cons_cons _ (.cons _ (.cons_cons _ (.cons _ (.cons_cons _ (.cons_cons _ (.cons_cons _ (.cons_cons _ (.cons_cons _ (.cons_cons _ (.cons_cons _ (.cons_cons _ (.cons_cons _ (List.nil_sublist _))))))))))))))), ?_⟩
         refine A_one (i := 6) (listed' := #[true, true, true, true, true, true, true, true, true, false, false, false, false, false, false, false, false, false, false, false, false, false, false, false, false, false, false, false, false, false, false, false, false, false, false, false, false, false, false, false, false]) (by kernel_rfl) rfl (by kernel_rfl) ?_
         refine OpK.vr hF (.string (⟨(octs (⟨false, f0, f1, f2, f3, 0, 0, 0, 0, 0, 0, 0, 0, 0, 0, 0, 0⟩ : Ip)).toArray⟩ : ByteArray)) (x_conv (run_bytes_string (P := Tryz.prog) (src := 46) (dst := 9) (e := 5) (p := q9) (l := octs (⟨false, f0, f1, f2, f3, 0, 0, 0, 0, 0, 0, 0, 0, 0, 0, 0, 0⟩ : Ip)) (c := qc8) (hO.read List.mem_cons_self) Tryz.underlying46 Tryz.underlying5 Tryz.underlying9) rfl (by kernel_rfl)) ?_; clear hF; intro a hF
         refine ⟨hO.sub (.cons _ (.cons_cons _ (.cons _ (.cons_cons _ (.cons _ (.cons_cons _ (.cons_cons _ (.cons_cons _ (.cons_cons _ (.cons_cons _ (.cons_cons _ (.cons_cons _ (.cons_cons _ (.cons_cons _ (List.nil_sublist _))))))))))))))), ?_⟩
         refine A_norm (listed' := #[true, true, true, true, true, true, true, true, true, false, false, false, false, false, false, false, false, false, false, false, false, false, false, false, false, false, false, false, false, false, false, false, false, false, false, false, false, false, false, false, false]) (by kernel_rfl) (hcut11 _ _ ⟨hF.restrict ⟨(by kernel_rfl), (by kernel_rfl), (by kernel_rfl), (by kernel_rfl), (by kernel_rfl), (by kernel_rfl), (by kernel_rfl), (by kernel_rfl), trivial⟩, (hO.sub (.cons_cons _ (.cons_cons _ (.cons_cons _ (.cons_cons _ (.cons_cons _ (.cons_cons _ (.cons_cons _ (.cons_cons _ (.cons_cons _ (.cons_cons _ (.cons_cons _ (.cons_cons _ (.cons_cons _ (.cons_cons _ (List.nil_sublist _))))))))))))))))⟩)
      ·
       refine A_br (listed' := #[true, true, true, true, true, false, false, true, true, false, false, false, false, false, false, false, false, false, false, false, false, false, false, false, false, false, false, false, false, false, false, false, false, false, false, false, false, false, false, false, false]) rfl (by kernel_rfl) ?_
       refine OpK.vr hF (.string (⟨([f0, f1, f2, f3] : List UInt8).toArray⟩ : ByteArray)) (x_conv (run_bytes_string (P := Tryz.prog) (src := 46) (dst := 9) (e := 5) (p := some ⟨b2, 0, none⟩) (l := ([f0, f1, f2, f3] : List UInt8)) (c := 4) (SlAt.blk hO (List.mem_cons_of_mem _ (List.mem_cons_of_mem _ (List.mem_cons_of_mem _ (List.mem_cons_of_mem _ (List.mem_cons_of_mem _ (List.mem_cons_of_mem _ (List.mem_cons_of_mem _ (List.mem_cons_of_mem _ (List.mem_cons_of_mem _ (List.mem_cons_of_mem _ (List.mem_cons_of_mem _ List.mem_cons_self))))))))))) (by kernel_rfl)) Tryz.underlying46 Tryz.underlying5 Tryz.underlying9) rfl (by kernel_rfl)) ?_; clear hF; intro a hF
       refine ⟨hO.sub (.cons_cons _ (.cons _ (.cons_cons _ (.cons _ (.cons_cons _ (.cons_cons _ (.cons_cons _ (.cons_cons _ (.cons_cons _ (.cons_cons _ (.cons_cons _ (.cons_cons _ (.cons_cons _ (List.nil_sublist _)))))))))))))), ?_⟩
       refine A_one (i := 5) (listed' := #[true, true, true, true, true, true, false, true, true, false, false, false, false, false, false, false, false, false, false, false, false, false, false, false, false, false, false, false, false, false, false, false, false, false, false, false, false, false, false, false, false]) (by kernel_rfl) rfl (by kernel_rfl) ?_
       refine OpK.lc hF (ref02_Bytes (⟨false, f0, f1, f2, f3, 0, 0, 0, 0, 0, 0, 0, 0, 0, 0, 0, 0⟩ : Ip) W25_d) ?_
       clear hF; rintro _ W48 a ⟨q10, qc9, rfl, hk⟩ hF
       replace hO := hO.call1 hk; clear hk
       refine ⟨hO.sub (.cons _ (.cons_cons _ (.cons _ (.cons_cons _ (.cons _ (.cons_cons _ (.cons_cons _ (.cons_cons _ (.cons_cons _ (.cons_cons _ (.cons_cons _ (.cons_cons _ (.cons_cons _ (.cons_cons _ (List.nil_sublist _))))))))))))))), ?_⟩
       refine A_one (i := 6) (listed' := #[true, true, true, true, true, true, true, true, true, false, false, false, false, false, false, false, false, false, false, false, false, false, false, false, false, false, false, false, false, false, false, false, false, false, false, false, false, false, false, false, false]) (by kernel_rfl) rfl (by kernel_rfl) ?_
       refine OpK.vr hF (.string (⟨(octs (⟨false, f0, f1, f2, f3, 0, 0, 0, 0, 0, 0, 0, 0, 0, 0, 0, 0⟩ : Ip)).toArray⟩ : ByteArray)) (x_conv (run_bytes_string (P := Tryz.prog) (src := 46) (dst := 9) (e := 5) (p := q10) (l := octs (⟨false, f0, f1, f2, f3, 0, 0, 0, 0, 0, 0, 0, 0, 0, 0, 0, 0⟩ : Ip)) (c := qc9) (hO.read List.mem_cons_self) Tryz.underlying46 Tryz.underlying5 Tryz.underlying9) rfl (by kernel_rfl)) ?_; clear hF; intro a hF
       refine ⟨hO.sub (.cons _ (.cons_cons _ (.cons _ (.cons_cons _ (.cons _ (.cons_cons _ (.cons_cons _ (.cons_cons _ (.cons_cons _ (.cons_cons _ (.cons_cons _ (.cons_cons _ (.cons_cons _ (.cons_cons _ (List.nil_sublist _))))))))))))))), ?_⟩
       refine A_norm (listed' := #[true, true, true, true, true, true, true, true, true, false, false, false, false, false, false, false, false, false, false, false, false, false, false, false, false, false, false, false, false, false, false, false, false, false, false, false, false, false, false, false, false]) (by kernel_rfl) (hcut6 _ _ ⟨q10, hF.restrict ⟨(by kernel_rfl), (by kernel_rfl), (by kernel_rfl), (by kernel_rfl), (by kernel_rfl), (by kernel_rfl), (by kernel_rfl), (by kernel_rfl), trivial⟩, (hO.sub (.cons_cons _ (.cons_cons _ (.cons_cons _ (.cons_cons _ (.cons_cons _ (.cons_cons _ (.cons_cons _ (.cons_cons _ (.cons_cons _ (.cons_cons _ (.cons_cons _ (.cons_cons _ (.cons_cons _ (.cons_cons _ (List.nil_sublist _))))))))))))))))⟩)
    ·
     intro hcut4
     refine A_many [12, 15] (by kernel_rfl) rfl ⟨?_, ?_, trivial⟩
     ·
      refine A_br (listed' := #[true, true, true, true, true, true, true, true, true, true, true, true, true, false, true, false, false, false, false, false, false, false, false]) rfl (by kernel_rfl) ?_
      refine OpK.lc hF (ref02_Bytes (noIp.cpy 0 (l)) W13_d) ?_
      clear hF; rintro _ W49 a ⟨q11, qc10, rfl, hk⟩ hF
      replace hO := hO.call1 hk; clear hk
      refine ⟨hO.sub (.cons _ (.cons_cons _ (.cons_cons _ (.cons_cons _ (.cons_cons _ (.cons_cons _ (.cons_cons _ (.cons_cons _ (List.nil_sublist _))))))))), ?_⟩
      refine A_cut (fun a Wx => Fr 143 a [(1, .slice p l.length cap), (5, .pointer (some ⟨b2, 0, none⟩)), (6, .bool false), (7, .pointer (some ⟨b3, 0, none⟩)), (74, .bool false), (77, .string (⟨(octs (noIp.cpy 0 (l))).toArray⟩ : ByteArray)), (79, .string (⟨l.toArray⟩ : ByteArray))] ∧ Own W noX [readL u8L q11 (octs (noIp.cpy 0 (l))), .blk b3 (.cells (ipL (noIp.cpy 0 (l))).toArray 33 (0, 0)), rowL u8L 1 5 q5 qc4 (putIp xa), rowL u8L 1 5 q4 qc3 (putIp xa), readL u8L q3 (octs xa), rowL u8L 1 5 q2 qc1 (octs xa), .blk b2 (.cells #[.int .u8 ((f0.toNat : Int)), .int .u8 ((f1.toNat : Int)), .int .u8 ((f2.toNat : Int)), .int .u8 ((f3.toNat : Int))] 59 (0, 0)), .blk b1 (.cells (ipL xa).toArray 33 (0, 0))] Wx) (fuel := 7) (listed := #[true, true, true, true, true, true, true, true, true, true, true, true, true, true, true, true, false, false, false, false, false, false, false]) ?_ ?_
      ·
       clear hF hO; rintro a W50 ⟨hF, hO⟩
       refine A_norm (listed' := #[true, true, true, true, true, true, true, true, true, true, true, true, true, true, true, true, false, false, false, false, false, false, false]) (by kernel_rfl) (hcut4 _ _ ⟨q11, hF.restrict ⟨(by kernel_rfl), (by kernel_rfl), (by kernel_rfl), (by kernel_rfl), (by kernel_rfl), (by kernel_rfl), (by kernel_rfl), trivial⟩, (hO.sub (.cons_cons _ (.cons_cons _ (.cons_cons _ (.cons_cons _ (.cons_cons _ (.cons_cons _ (.cons_cons _ (.cons_cons _ (List.nil_sublist _))))))))))⟩)
      ·
       intro hcut12
       refine A_many [13, 15] (by kernel_rfl) rfl ⟨?_, ?_, trivial⟩
       ·
        refine A_br (listed' := #[true, true, true, true, true, true, true, true, true, true, true, true, true, true, true, false, false, false, false, false, false, false, false]) rfl (by kernel_rfl) ?_
        refine OpK.vr hF (.string (⟨(octs (noIp.cpy 0 (l))).toArray⟩ : ByteArray)) (x_conv (run_bytes_string (P := Tryz.prog) (src := 46) (dst := 9) (e := 5) (p := q11) (l := octs (noIp.cpy 0 (l))) (c := qc10) (hO.read List.mem_cons_self) Tryz.underlying46 Tryz.underlying5 Tryz.underlying9) rfl (by kernel_rfl)) ?_; clear hF; intro a hF
        refine ⟨hO.sub (.cons _ (.cons_cons _ (.cons_cons _ (.cons_cons _ (.cons_cons _ (.cons_cons _ (.cons_cons _ (.cons_cons _ (List.nil_sublist _))))))))), ?_⟩
        refine A_one (i := 15) (listed' := #[true, true, true, true, true, true, true, true, true, true, true, true, true, true, true, true, false, false, false, false, false, false, false]) (by kernel_rfl) rfl (by kernel_rfl) ?_
        refine OpK.vr hF (.string (⟨l.toArray⟩ : ByteArray)) (x_conv (run_bytes_string (P := Tryz.prog) (src := 46) (dst := 9) (e := 5) (p := p) (l := l) (c := cap) (hl.own hO) Tryz.underlying46 Tryz.underlying5 Tryz.underlying9) rfl (by kernel_rfl)) ?_; clear hF; intro a hF
        refine ⟨hO.sub (.cons _ (.cons_cons _ (.cons_cons _ (.cons_cons _ (.cons_cons _ (.cons_cons _ (.cons_cons _ (.cons_cons _ (List.nil_sublist _))))))))), ?_⟩
        refine A_norm (listed' := #[true, true, true, true, true, true, true, true, true, true, true, true, true, true, true, true, false, false, false, false, false, false, false]) (by kernel_rfl) (hcut12 _ _ ⟨hF.restrict ⟨(by kernel_rfl), (by kernel_rfl), (by kernel_rfl), (by kernel_rfl), (by kernel_rfl), (by kernel_rfl), (by kernel_rfl), trivial⟩, (hO.sub (.cons_cons _ (.cons_cons _ (.cons_cons _ (.cons_cons _ (.cons_cons _ (.cons_cons _ (.cons_cons _ (.cons_cons _ (List.nil_sublist _))))))))))⟩)
       ·
        refine A_br (listed' := #[true, true, true, true, true, true, true, true, true, true, true, true, true, false, true, true, false, false, false, false, false, false, false]) rfl (by kernel_rfl) ?_
        refine OpK.vr hF (.string (⟨l.toArray⟩ : ByteArray)) (x_conv (run_bytes_string (P := Tryz.prog) (src := 46) (dst := 9) (e := 5) (p := p) (l := l) (c := cap) (hl.own hO) Tryz.underlying46 Tryz.underlying5 Tryz.underlying9) rfl (by kernel_rfl)) ?_; clear hF; intro a hF
        refine ⟨hO.sub (.cons _ (.cons_cons _ (.cons_cons _ (.cons_cons _ (.cons_cons _ (.cons_cons _ (.cons_cons _ (.cons_cons _ (List.nil_sublist _))))))))), ?_⟩
        refine A_one (i := 13) (listed' := #[true, true, true, true, true, true, true, true, true, true, true, true, true, true, true, true, false, false, false, false, false, false, false]) (by kernel_rfl) rfl (by kernel_rfl) ?_
        refine OpK.vr hF (.string (⟨(octs (noIp.cpy 0 (l))).toArray⟩ : ByteArray)) (x_conv (run_bytes_string (P := Tryz.prog) (src := 46) (dst := 9) (e := 5) (p := q11) (l := octs (noIp.cpy 0 (l))) (c := qc10) (hO.read List.mem_cons_self) Tryz.underlying46 Tryz.underlying5 Tryz.underlying9) rfl (by kernel_rfl)) ?_; clear hF; intro a hF
        refine ⟨hO.sub (.cons _ (.cons_cons _ (.cons_cons _ (.cons_cons _ (.cons_cons _ (.cons_cons _ (.cons_cons _ (.cons_cons _ (List.nil_sublist _))))))))), ?_⟩
        refine A_norm (listed' := #[true, true, true, true, true, true, true, true, true, true, true, true, true, true, true, true, false, false, false, false, false, false, false]) (by kernel_rfl) (hcut12 _ _ ⟨hF.restrict ⟨(by kernel_rfl), (by kernel_rfl), (by kernel_rfl), (by kernel_rfl), (by kernel_rfl), (by kernel_rfl), (by kernel_rfl), trivial⟩, (hO.sub (.cons_cons _ (.cons_cons _ (.cons_cons _ (.cons_cons _ (.cons_cons _ (.cons_cons _ (.cons_cons _ (.cons_cons _ (List.nil_sublist _))))))))))⟩)
     ·
      refine A_br (listed' := #[true, true, true, true, true, true, true, true, true, true, true, true, false, false, true, true, false, false, false, false, false, false, false]) rfl (by kernel_rfl) ?_
      refine OpK.vr hF (.string (⟨l.toArray⟩ : ByteArray)) (x_conv (run_bytes_string (P := Tryz.prog) (src := 46) (dst := 9) (e := 5) (p := p) (l := l) (c := cap) (hl.own hO) Tryz.underlying46 Tryz.underlying5 Tryz.underlying9) rfl (by kernel_rfl)) ?_; clear hF; intro a hF
      refine ⟨hO.sub (.cons_cons _ (.cons_cons _ (.cons_cons _ (.cons_cons _ (.cons_cons _ (.cons_cons _ (.cons_cons _ (List.nil_sublist _)))))))), ?_⟩
      refine A_one (i := 12) (listed' := #[true, true, true, true, true, true, true, true, true, true, true, true, true, false, true, true, false, false, false, false, false, false, false]) (by kernel_rfl) rfl (by kernel_rfl) ?_
      refine OpK.lc hF (ref02_Bytes (noIp.cpy 0 (l)) W13_d) ?_
      clear hF; rintro _ W51 a ⟨q12, qc11, rfl, hk⟩ hF
      replace hO := hO.call1 hk; clear hk
      refine ⟨hO.sub (.cons _ (.cons_cons _ (.cons_cons _ (.cons_cons _ (.cons_cons _ (.cons_cons _ (.cons_cons _ (.cons_cons _ (List.nil_sublist _))))))))), ?_⟩
      refine A_one (i := 13) (listed' := #[true, true, true, true, true, true, true, true, true, true, true, true, true, true, true, true, false, false, false, false, false, false, false]) (by kernel_rfl) rfl (by kernel_rfl) ?_
      refine OpK.vr hF (.string (⟨(octs (noIp.cpy 0 (l))).toArray⟩ : ByteArray)) (x_conv (run_bytes_string (P := Tryz.prog) (src := 46) (dst := 9) (e := 5) (p := q12) (l := octs (noIp.cpy 0 (l))) (c := qc11) (hO.read List.mem_cons_self) Tryz.underlying46 Tryz.underlying5 Tryz.underlying9) rfl (by kernel_rfl)) ?_; clear hF; intro a hF
      refine ⟨hO.sub (.cons _ (.cons_cons _ (.cons_cons _ (.cons_cons _ (.cons_cons _ (.cons_cons _ (.cons_cons _ (.cons_cons _ (List.nil_sublist _))))))))), ?_⟩
      refine A_norm (listed' := #[true, true, true, true, true, true, true, true, true, true, true, true, true, true, true, true, false, false, false, false, false, false, false]) (by kernel_rfl) (hcut4 _ _ ⟨q12, hF.restrict ⟨(by kernel_rfl), (by kernel_rfl), (by kernel_rfl), (by kernel_rfl), (by kernel_rfl), (by kernel_rfl), (by kernel_rfl), trivial⟩, (hO.sub (.cons_cons _ (.cons_cons _ (.cons_cons _ (.cons_cons _ (.cons_cons _ (.cons_cons _ (.cons_cons _ (.cons_cons _ (List.nil_sublist _))))))))))⟩)
   ·
    intro hcut2
    refine A_many [10, 12] (by kernel_rfl) rfl ⟨?_, ?_, trivial⟩
    ·
     refine A_br (listed' := #[true, true, true, true, true, true, true, true, true, true, true, true, false, false, false, false, false, false, false, false, false, false, false, false, false]) rfl (by kernel_rfl) ?_
     refine OpK.vr hF (.string (⟨(putIp xa).toArray⟩ : ByteArray)) (x_conv (run_bytes_string (P := Tryz.prog) (src := 46) (dst := 9) (e := 5) (p := q4) (l := putIp xa) (c := qc3) (hO.row List.mem_cons_self) Tryz.underlying46 Tryz.underlying5 Tryz.underlying9) rfl (by kernel_rfl)) ?_; clear hF; intro a hF
     refine ⟨hO.sub (.cons _ (.cons _ (.cons _ (.cons_cons _ (.cons_cons _ (List.nil_sublist _)))))), ?_⟩
     refine A_one (i := 12) (listed' := #[true, true, true, true, true, true, true, true, true, true, true, true, true, false, false, false, false, false, false, false, false, false, false, false, false]) (by kernel_rfl) rfl (by kernel_rfl) ?_
     refine OpK.lc hF (ref02_Put xa W7) ?_
     clear hF; rintro _ W52 a ⟨q13, qc12, rfl, hk⟩ hF
     replace hO := hO.call1 hk; clear hk
     refine ⟨hO.sub (.cons _ (.cons _ (.cons _ (.cons _ (.cons_cons _ (.cons_cons _ (List.nil_sublist _))))))), ?_⟩
     refine A_one (i := 13) (listed' := #[true, true, true, true, true, true, true, true, true, true, true, true, true, true, false, false, false, false, false, false, false, false, false, false, false]) (by kernel_rfl) rfl (by kernel_rfl) ?_
     refine OpK.vr hF (.string (⟨(putIp xa).toArray⟩ : ByteArray)) (x_conv (run_bytes_string (P := Tryz.prog) (src := 46) (dst := 9) (e := 5) (p := q13) (l := putIp xa) (c := qc12) (hO.row List.mem_cons_self) Tryz.underlying46 Tryz.underlying5 Tryz.underlying9) rfl (by kernel_rfl)) ?_; clear hF; intro a hF
     refine ⟨hO.sub (.cons _ (.cons _ (.cons _ (.cons _ (.cons_cons _ (.cons_cons _ (List.nil_sublist _))))))), ?_⟩
     refine A_norm (listed' := #[true, true, true, true, true, true, true, true, true, true, true, true, true, true, false, false, false, false, false, false, false, false, false, false, false]) (by kernel_rfl) (hcut2 _ _ ⟨q13, qc12, hF.restrict ⟨(by kernel_rfl), (by kernel_rfl), (by kernel_rfl), (by kernel_rfl), (by kernel_rfl), (by kernel_rfl), (by kernel_rfl), trivial⟩, (hO.sub (.cons_cons _ (.cons_cons _ (.cons_cons _ (.cons_cons _ (.cons_cons _ (.cons_cons _ (List.nil_sublist _))))))))⟩)
    ·
     refine A_br (listed' := #[true, true, true, true, true, true, true, true, true, true, false, true, true, false, false, false, false, false, false, false, false, false, false, false, false]) rfl (by kernel_rfl) ?_
     refine OpK.lc hF (ref02_Put xa W7) ?_
     clear hF; rintro _ W53 a ⟨q14, qc13, rfl, hk⟩ hF
     replace hO := hO.call1 hk; clear hk
     refine ⟨hO.sub (.cons _ (.cons _ (.cons _ (.cons _ (.cons_cons _ (.cons_cons _ (List.nil_sublist _))))))), ?_⟩
     refine A_cut (fun a Wx => Fr 143 a [(1, .slice p l.length cap), (3, .pointer (some ⟨b1, 0, none⟩)), (5, .pointer (some ⟨b2, 0, none⟩)), (6, .bool false), (25, .bool false), (28, .string (⟨(putIp xa).toArray⟩ : ByteArray)), (31, .string (⟨(putIp xa).toArray⟩ : ByteArray))] ∧ Own W noX [rowL u8L 1 5 q14 qc13 (putIp xa), rowL u8L 1 5 q4 qc3 (putIp xa), readL u8L q3 (octs xa), rowL u8L 1 5 q2 qc1 (octs xa), .blk b2 (.cells #[.int .u8 ((f0.toNat : Int)), .int .u8 ((f1.toNat : Int)), .int .u8 ((f2.toNat : Int)), .int .u8 ((f3.toNat : Int))] 59 (0, 0)), .blk b1 (.cells (ipL xa).toArray 33 (0, 0))] Wx) (fuel := 11) (listed := #[true, true, true, true, true, true, true, true, true, true, true, true, true, true, false, false, false, false, false, false, false, false, false, false, false]) ?_ ?_
     ·
      clear hF hO; rintro a W54 ⟨hF, hO⟩
      refine A_norm (listed' := #[true, true, true, true, true, true, true, true, true, true, true, true, true, true, false, false, false, false, false, false, false, false, false, false, false]) (by kernel_rfl) (hcut2 _ _ ⟨q14, qc13, hF.restrict ⟨(by kernel_rfl), (by kernel_rfl), (by kernel_rfl), (by kernel_rfl), (by kernel_rfl), (by kernel_rfl), (by kernel_rfl), trivial⟩, (hO.sub (.cons_cons _ (.cons_cons _ (.cons_cons _ (.cons_cons _ (.cons_cons _ (.cons_cons _ (List.nil_sublist _))))))))⟩)
     ·
      intro hcut13
      refine A_many [10, 13] (by kernel_rfl) rfl ⟨?_, ?_, trivial⟩
      ·
       refine A_br (listed' := #[true, true, true, true, true, true, true, true, true, true, true, true, true, false, false, false, false, false, false, false, false, false, false, false, false]) rfl (by kernel_rfl) ?_
       refine OpK.vr hF (.string (⟨(putIp xa).toArray⟩ : ByteArray)) (x_conv (run_bytes_string (P := Tryz.prog) (src := 46) (dst := 9) (e := 5) (p := q4) (l := putIp xa) (c := qc3) (hO.row (List.mem_cons_of_mem _ List.mem_cons_self)) Tryz.underlying46 Tryz.underlying5 Tryz.underlying9) rfl (by kernel_rfl)) ?_; clear hF; intro a hF
       refine ⟨hO.sub (.cons _ (.cons _ (.cons _ (.cons _ (.cons_cons _ (.cons_cons _ (List.nil_sublist _))))))), ?_⟩
       refine A_one (i := 13) (listed' := #[true, true, true, true, true, true, true, true, true, true, true, true, true, true, false, false, false, false, false, false, false, false, false, false, false]) (by kernel_rfl) rfl (by kernel_rfl) ?_
       refine OpK.vr hF (.string (⟨(putIp xa).toArray⟩ : ByteArray)) (x_conv (run_bytes_string (P := Tryz.prog) (src := 46) (dst := 9) (e := 5) (p := q14) (l := putIp xa) (c := qc13) (hO.row List.mem_cons_self) Tryz.underlying46 Tryz.underlying5 Tryz.underlying9) rfl (by kernel_rfl)) ?_; clear hF; intro a hF
       refine ⟨hO.sub (.cons _ (.cons _ (.cons _ (.cons _ (.cons_cons _ (.cons_cons _ (List.nil_sublist _))))))), ?_⟩
       refine A_norm (listed' := #[true, true, true, true, true, true, true, true, true, true, true, true, true, true, false, false, false, false, false, false, false, false, false, false, false]) (by kernel_rfl) (hcut13 _ _ ⟨hF.restrict ⟨(by kernel_rfl), (by kernel_rfl), (by kernel_rfl), (by kernel_rfl), (by kernel_rfl), (by kernel_rfl), (by kernel_rfl), trivial⟩, (hO.sub (.cons_cons _ (.cons_cons _ (.cons_cons _ (.cons_cons _ (.cons_cons _ (.cons_cons _ (List.nil_sublist _))))))))⟩)
      ·
       refine A_br (listed' := #[true, true, true, true, true, true, true, true, true, true, false, true, true, true, false, false, false, false, false, false, false, false, false, false, false]) rfl (by kernel_rfl) ?_
       refine OpK.vr hF (.string (⟨(putIp xa).toArray⟩ : ByteArray)) (x_conv (run_bytes_string (P := Tryz.prog) (src := 46) (dst := 9) (e := 5) (p := q14) (l := putIp xa) (c := qc13) (hO.row List.mem_cons_self) Tryz.underlying46 Tryz.underlying5 Tryz.underlying9) rfl (by kernel_rfl)) ?_; clear hF; intro a hF
       refine ⟨hO.sub (.cons _ (.cons _ (.cons _ (.cons _ (.cons_cons _ (.cons_cons _ (List.nil_sublist _))))))), ?_⟩
       refine A_one (i := 10) (listed' := #[true, true, true, true, true, true, true, true, true, true, true, true, true, true, false, false, false, false, false, false, false, false, false, false, false]) (by kernel_rfl) rfl (by kernel_rfl) ?_
       refine OpK.vr hF (.string (⟨(putIp xa).toArray⟩ : ByteArray)) (x_conv (run_bytes_string (P := Tryz.prog) (src := 46) (dst := 9) (e := 5) (p := q4) (l := putIp xa) (c := qc3) (hO.row (List.mem_cons_of_mem _ List.mem_cons_self)) Tryz.underlying46 Tryz.underlying5 Tryz.underlying9) rfl (by kernel_rfl)) ?_; clear hF; intro a hF
       refine ⟨hO.sub (.cons _ (.cons _ (.cons _ (.cons _ (.cons_cons _ (.cons_cons _ (List.nil_sublist _))))))), ?_⟩
       refine A_norm (listed' := #[true, true, true, true, true, true, true, true, true, true, true, true, true, true, false, false, false, false, false, false, false, false, false, false, false]) (by kernel_rfl) (hcut13 _ _ ⟨hF.restrict ⟨(by kernel_rfl), (by kernel_rfl), (by kernel_rfl), (by kernel_rfl), (by kernel_rfl), (by kernel_rfl), (by kernel_rfl), trivial⟩, (hO.sub (.cons_cons _ (.cons_cons _ (.cons_cons _ (.cons_cons _ (.cons_cons _ (.cons_cons _ (List.nil_sublist _))))))))⟩)
  ·
   intro hcut1
   refine A_many [2, 4] (by kernel_rfl) rfl ⟨?_, ?_, trivial⟩
   ·
    refine A_br (listed' := #[true, true, true, true, false, false, false, false, false, false, false, false, false, false, false, false, false, false, false, false, false, false, false, false, false]) rfl (by kernel_rfl) ?_
    refine OpK.vr hF (.string (⟨(octs xa).toArray⟩ : ByteArray)) (x_conv (run_bytes_string (P := Tryz.prog) (src := 46) (dst := 9) (e := 5) (p := q2) (l := octs xa) (c := qc1) (hO.row List.mem_cons_self) Tryz.underlying46 Tryz.underlying5 Tryz.underlying9) rfl (by kernel_rfl)) ?_; clear hF; intro a hF
    refine ⟨hO.sub (.cons _ (.cons_cons _ (.cons_cons _ (List.nil_sublist _)))), ?_⟩
    refine A_one (i := 4) (listed' := #[true, true, true, true, true, false, false, false, false, false, false, false, false, false, false, false, false, false, false, false, false, false, false, false, false]) (by kernel_rfl) rfl (by kernel_rfl) ?_
    refine OpK.lc hF (ref02_Bytes xa W4) ?_
    clear hF; rintro _ W55 a ⟨q15, qc14, rfl, hk⟩ hF
    replace hO := hO.call1 hk; clear hk
    refine ⟨hO.sub (.cons _ (.cons _ (.cons_cons _ (.cons_cons _ (List.nil_sublist _))))), ?_⟩
    refine A_one (i := 5) (listed' := #[true, true, true, true, true, true, false, false, false, false, false, false, false, false, false, false, false, false, false, false, false, false, false, false, false]) (by kernel_rfl) rfl (by kernel_rfl) ?_
    refine OpK.vr hF (.string (⟨(octs xa).toArray⟩ : ByteArray)) (x_conv (run_bytes_string (P := Tryz.prog) (src := 46) (dst := 9) (e := 5) (p := q15) (l := octs xa) (c := qc14) (hO.read List.mem_cons_self) Tryz.underlying46 Tryz.underlying5 Tryz.underlying9) rfl (by kernel_rfl)) ?_; clear hF; intro a hF
    refine ⟨hO.sub (.cons _ (.cons _ (.cons_cons _ (.cons_cons _ (List.nil_sublist _))))), ?_⟩
    refine A_norm (listed' := #[true, true, true, true, true, true, false, false, false, false, false, false, false, false, false, false, false, false, false, false, false, false, false, false, false]) (by kernel_rfl) (hcut1 _ _ ⟨q15, hF.restrict ⟨(by kernel_rfl), (by kernel_rfl), (by kernel_rfl), (by kernel_rfl), (by kernel_rfl), (by kernel_rfl), trivial⟩, (hO.sub (.cons_cons _ (.cons_cons _ (.cons_cons _ (.cons_cons _ (List.nil_sublist _))))))⟩)
   ·
    refine A_br (listed' := #[true, true, false, true, true, false, false, false, false, false, false, false, false, false, false, false, false, false, false, false, false, false, false, false, false]) rfl (by kernel_rfl) ?_
    refine OpK.lc hF (ref02_Bytes xa W4) ?_
    clear hF; rintro _ W56 a ⟨q16, qc15, rfl, hk⟩ hF
    replace hO := hO.call1 hk; clear hk
    refine ⟨hO.sub (.cons _ (.cons _ (.cons_cons _ (.cons_cons _ (List.nil_sublist _))))), ?_⟩
    refine A_cut (fun a Wx => Fr 143 a [(1, .slice p l.length cap), (3, .pointer (some ⟨b1, 0, none⟩)), (5, .pointer (some ⟨b2, 0, none⟩)), (6, .bool false), (20, .string (⟨(octs xa).toArray⟩ : ByteArray)), (23, .string (⟨(octs xa).toArray⟩ : ByteArray))] ∧ Own W noX [readL u8L q16 (octs xa), rowL u8L 1 5 q2 qc1 (octs xa), .blk b2 (.cells #[.int .u8 ((f0.toNat : Int)), .int .u8 ((f1.toNat : Int)), .int .u8 ((f2.toNat : Int)), .int .u8 ((f3.toNat : Int))] 59 (0, 0)), .blk b1 (.cells (ipL xa).toArray 33 (0, 0))] Wx) (fuel := 19) (listed := #[true, true, true, true, true, true, false, false, false, false, false, false, false, false, false, false, false, false, false, false, false, false, false, false, false]) ?_ ?_
    ·
     clear hF hO; rintro a W57 ⟨hF, hO⟩
     refine A_norm (listed' := #[true, true, true, true, true, true, false, false, false, false, false, false, false, false, false, false, false, false, false, false, false, false, false, false, false]) (by kernel_rfl) (hcut1 _ _ ⟨q16, hF.restrict ⟨(by kernel_rfl), (by kernel_rfl), (by kernel_rfl), (by kernel_rfl), (by kernel_rfl), (by kernel_rfl), trivial⟩, (hO.sub (.cons_cons _ (.cons_cons _ (.cons_cons _ (.cons_cons _ (List.nil_sublist _))))))⟩)
    ·
     intro hcut14
     refine A_many [2, 5] (by kernel_rfl) rfl ⟨?_, ?_, trivial⟩
     ·
      refine A_br (listed' := #[true, true, true, true, true, false, false, false, false, false, false, false, false, false, false, false, false, false, false, false, false, false, false, false, false]) rfl (by kernel_rfl) ?_
      refine OpK.vr hF (.string (⟨(octs xa).toArray⟩ : ByteArray)) (x_conv (run_bytes_string (P := Tryz.prog) (src := 46) (dst := 9) (e := 5) (p := q2) (l := octs xa) (c := qc1) (hO.row (List.mem_cons_of_mem _ List.mem_cons_self)) Tryz.underlying46 Tryz.underlying5 Tryz.underlying9) rfl (by kernel_rfl)) ?_; clear hF; intro a hF
      refine ⟨hO.sub (.cons _ (.cons _ (.cons_cons _ (.cons_cons _ (List.nil_sublist _))))), ?_⟩
      refine A_one (i := 5) (listed' := #[true, true, true, true, true, true, false, false, false, false, false, false, false, false, false, false, false, false, false, false, false, false, false, false, false]) (by kernel_rfl) rfl (by kernel_rfl) ?_
      refine OpK.vr hF (.string (⟨(octs xa).toArray⟩ : ByteArray)) (x_conv (run_bytes_string (P := Tryz.prog) (src := 46) (dst := 9) (e := 5) (p := q16) (l := octs xa) (c := qc15) (hO.read List.mem_cons_self) Tryz.underlying46 Tryz.underlying5 Tryz.underlying9) rfl (by kernel_rfl)) ?_; clear hF; intro a hF
      refine ⟨hO.sub (.cons _ (.cons _ (.cons_cons _ (.cons_cons _ (List.nil_sublist _))))), ?_⟩
      refine A_norm (listed' := #[true, true, true, true, true, true, false, false, false, false, false, false, false, false, false, false, false, false, false, false, false, false, false, false, false]) (by kernel_rfl) (hcut14 _ _ ⟨hF.restrict ⟨(by kernel_rfl), (by kernel_rfl), (by kernel_rfl), (by kernel_rfl), (by kernel_rfl), (by kernel_rfl), trivial⟩, (hO.sub (.cons_cons _ (.cons_cons _ (.cons_cons _ (.cons_cons _ (List.nil_sublist _))))))⟩)
     ·
      refine A_br (listed' := #[true, true, false, true, true, true, false, false, false, false, false, false, false, false, false, false, false, false, false, false, false, false, false, false, false]) rfl (by kernel_rfl) ?_
      refine OpK.vr hF (.string (⟨(octs xa).toArray⟩ : ByteArray)) (x_conv (run_bytes_string (P := Tryz.prog) (src := 46) (dst := 9) (e := 5) (p := q16) (l := octs xa) (c := qc15) (hO.read List.mem_cons_self) Tryz.underlying46 Tryz.underlying5 Tryz.underlying9) rfl (by kernel_rfl)) ?_; clear hF; intro a hF
      refine ⟨hO.sub (.cons _ (.cons _ (.cons_cons _ (.cons_cons _ (List.nil_sublist _))))), ?_⟩
      refine A_one (i := 2) (listed' := #[true, true, true, true, true, true, false, false, false, false, false, false, false, false, false, false, false, false, false, false, false, false, false, false, false]) (by kernel_rfl) rfl (by kernel_rfl) ?_
      refine OpK.vr hF (.string (⟨(octs xa).toArray⟩ : ByteArray)) (x_conv (run_bytes_string (P := Tryz.prog) (src := 46) (dst := 9) (e := 5) (p := q2) (l := octs xa) (c := qc1) (hO.row (List.mem_cons_of_mem _ List.mem_cons_self)) Tryz.underlying46 Tryz.underlying5 Tryz.underlying9) rfl (by kernel_rfl)) ?_; clear hF; intro a hF
      refine ⟨hO.sub (.cons _ (.cons _ (.cons_cons _ (.cons_cons _ (List.nil_sublist _))))), ?_⟩
      refine A_norm (listed' := #[true, true, true, true, true, true, false, false, false, false, false, false, false, false, false, false, false, false, false, false, false, false, false, false, false]) (by kernel_rfl) (hcut14 _ _ ⟨hF.restrict ⟨(by kernel_rfl), (by kernel_rfl), (by kernel_rfl), (by kernel_rfl), (by kernel_rfl), (by kernel_rfl), trivial⟩, (hO.sub (.cons_cons _ (.cons_cons _ (.cons_cons _ (.cons_cons _ (List.nil_sublist _))))))⟩)

end Go.Proofs.YthellfigmpjhlaaGreatDoor
