/- The law PortsPoints, walked. -/
import Derived.Test.YthellfigmpjhlaaGreatDoorPtsF
import Derived.Test.YthellfigmpjhlaaGreatDoorPtsR
import Derived.Test.YthellfigmpjhlaaGreatDoorA04
namespace Go.Proofs.YthellfigmpjhlaaGreatDoor
open Go Go.RowKit
set_option linter.unusedVariables false
set_option linter.unusedSimpArgs false
set_option maxRecDepth 20000 in
theorem law04_PortsPoints_n (I : List Nat) (ea : Nat → Addr) (c : Pt) (s : ByteArray) (W : World) (hG : LibW W) (hE : Errs I ea W) (h3 : I.contains 3 = true) (hI : I = errIs) (hp : parsePt s = none) : Ret Tryz.prog 11 #[ptV c, .string s] W fun v W' => v = .bool true ∧ Own W noX [] W' := by
 refine enter Tryz.func11 rfl (n := 72) rfl (by kernel_rfl) (E0 := [(1, .string s), (0, ptV c)]) (by kernel_rfl) ?_
 intro a hF; have hO := Own.start W noX
 refine wp_seq_k fun K1 hK1 => ?_
 refine wp_region_lit ?_
 refine L_new hF hO (by kernel_rfl) (by kernel_rfl) (vf := fun b => .pointer (some ⟨b, 0, none⟩)) (ob := .cells #[.bool c.ip.six, .int .u8 ((c.ip.b0.toNat : Int)), .int .u8 ((c.ip.b1.toNat : Int)), .int .u8 ((c.ip.b2.toNat : Int)), .int .u8 ((c.ip.b3.toNat : Int)), .int .u8 ((c.ip.b4.toNat : Int)), .int .u8 ((c.ip.b5.toNat : Int)), .int .u8 ((c.ip.b6.toNat : Int)), .int .u8 ((c.ip.b7.toNat : Int)), .int .u8 ((c.ip.b8.toNat : Int)), .int .u8 ((c.ip.b9.toNat : Int)), .int .u8 ((c.ip.b10.toNat : Int)), .int .u8 ((c.ip.b11.toNat : Int)), .int .u8 ((c.ip.b12.toNat : Int)), .int .u8 ((c.ip.b13.toNat : Int)), .int .u8 ((c.ip.b14.toNat : Int)), .int .u8 ((c.ip.b15.toNat : Int)), .int .i64 (c.port)] 45) (by kernel_rfl) (by kernel_rfl) ?_
 clear hF hO; intro b1 W1 a hO hF
 refine Vp hF (.bool false) ?_; clear hF; intro a hF
 refine L_nil ?_
 refine hK1 _ _ ?_
 refine wp_seq_k fun K2 hK2 => ?_
 refine wp_seq_k fun K3 hK3 => ?_
 refine wp_region_lit ?_
 refine Lc hF (law04_alive I ea W1 (hG.own hO) (hE.own hO) h3) ?_
 clear hF; rintro _ W2 a ⟨rfl, hk⟩ hF
 replace hO := hO.call0 hk; clear hk
 refine Vp hF (.bool false) ?_; clear hF; intro a hF
 refine L_nil ?_
 refine hK3 _ _ ?_
 refine cond_f hF (by kernel_rfl) (by kernel_rfl) ?_
 refine wp_skip ?_
 refine hK2 _ _ ?_
 refine wp_seq_k fun K4 hK4 => ?_
 refine wp_seq_k fun K5 hK5 => ?_
 refine wp_region_lit ?_
 refine Vp hF (.string s) ?_; clear hF; intro a hF
 refine Vp hF (.int .i64 ((s.size : Int))) ?_; clear hF; intro a hF
 refine Vp hF (.bool (decide ((s.size : Int) > 200))) ?_; clear hF; intro a hF
 refine L_nil ?_
 refine hK5 _ _ ?_
 by_cases q1 : (s.size : Int) > 200
 ·
  replace hF := hF.know (d := 15) (v' := .bool true) (by kernel_rfl) (congrArg Value.bool (decide_eq_true q1))
  refine cond_t hF (by kernel_rfl) (by kernel_rfl) ?_
  refine wp_seq_k fun K6 hK6 => ?_
  refine wp_region_lit ?_
  refine Vp hF (.bool true) ?_; clear hF; intro a hF
  refine L_nil ?_
  refine hK6 _ _ ?_
  refine wp_ret ?_
  refine then_ret ?_
  refine ret1 hF (v := .bool true) rfl (resT (by kernel_rfl)) (by refine ⟨?_, hO.nil⟩; first | rfl | (exfalso; simp_all; done) | (simp; done)) .ret (.inl rfl)
 ·
  replace hF := hF.know (d := 15) (v' := .bool false) (by kernel_rfl) (congrArg Value.bool (decide_eq_false q1))
  refine cond_f hF (by kernel_rfl) (by kernel_rfl) ?_
  refine wp_skip ?_
  refine hK4 _ _ ?_
  refine wp_seq_k fun K7 hK7 => ?_
  refine wp_region_lit ?_
  refine Vp hF (.string s) ?_; clear hF; intro a hF
  refine Lc hF ((ports_Parse I ea s W2 (hG.own hO) (hE.own hO) h3 (by omega)).mono fun v W' h => (⟨by rw [h.1, hp]; rfl, h.2⟩ : v = .tuple #[ptV noPt, errV ea 3] ∧ Own W2 noX [] W')) ?_
  clear hF; rintro _ W3 a ⟨rfl, hk⟩ hF
  replace hO := hO.call0 hk; clear hk
  refine Vp hF (.tuple #[ptV noPt, errV ea 3]) ?_; clear hF; intro a hF
  refine Vp hF (ptV noPt) ?_; clear hF; intro a hF
  refine Vp hF (errV ea 3) ?_; clear hF; intro a hF
  refine L_new hF hO (by kernel_rfl) (by kernel_rfl) (vf := fun b => .pointer (some ⟨b, 0, none⟩)) (ob := .cells #[.bool false, .int .u8 0, .int .u8 0, .int .u8 0, .int .u8 0, .int .u8 0, .int .u8 0, .int .u8 0, .int .u8 0, .int .u8 0, .int .u8 0, .int .u8 0, .int .u8 0, .int .u8 0, .int .u8 0, .int .u8 0, .int .u8 0, .int .i64 0] 45) (by kernel_rfl) (by kernel_rfl) ?_
  clear hF hO; intro b2 W4 a hO hF
  obtain ⟨W5, hst, hO1⟩ := run_storeAt (P := Tryz.prog) (k := 18) (T := 45) (off := 0) (v := ptV noPt) (cs := #[.bool false, .int .u8 0, .int .u8 0, .int .u8 0, .int .u8 0, .int .u8 0, .int .u8 0, .int .u8 0, .int .u8 0, .int .u8 0, .int .u8 0, .int .u8 0, .int .u8 0, .int .u8 0, .int .u8 0, .int .u8 0, .int .u8 0, .int .i64 0]) (cs' := #[.bool noPt.ip.six, .int .u8 ((noPt.ip.b0.toNat : Int)), .int .u8 ((noPt.ip.b1.toNat : Int)), .int .u8 ((noPt.ip.b2.toNat : Int)), .int .u8 ((noPt.ip.b3.toNat : Int)), .int .u8 ((noPt.ip.b4.toNat : Int)), .int .u8 ((noPt.ip.b5.toNat : Int)), .int .u8 ((noPt.ip.b6.toNat : Int)), .int .u8 ((noPt.ip.b7.toNat : Int)), .int .u8 ((noPt.ip.b8.toNat : Int)), .int .u8 ((noPt.ip.b9.toNat : Int)), .int .u8 ((noPt.ip.b10.toNat : Int)), .int .u8 ((noPt.ip.b11.toNat : Int)), .int .u8 ((noPt.ip.b12.toNat : Int)), .int .u8 ((noPt.ip.b13.toNat : Int)), .int .u8 ((noPt.ip.b14.toNat : Int)), .int .u8 ((noPt.ip.b15.toNat : Int)), .int .i64 (noPt.port)]) hO (by kernel_rfl) (by kernel_rfl) (by kernel_rfl) (Nat.le_of_ble_eq_true (by kernel_rfl)) (by kernel_rfl) (.head _)
  refine L_skip hF (by kernel_rfl) (by kernel_rfl) (x_store (p := .pointer (some ⟨b2, 0, none⟩)) (v := ptV noPt) rfl (by kernel_rfl) (by kernel_rfl) hst) (by kernel_rfl) ?_
  clear hst hF; intro a hF; replace hO := hO1; clear hO1
  refine Vp hF (errV ea 3) ?_; clear hF; intro a hF
  refine L_nil ?_
  refine hK7 _ _ ?_
  refine wp_seq_k fun K8 hK8 => ?_
  refine wp_region_lit ?_
  refine Vp hF (.string s) ?_; clear hF; intro a hF
  refine Lc hF ((ref04_Parse s W5 (by omega)).mono fun v W' h => (⟨by rw [h.1, hp]; rfl, h.2⟩ : v = .tuple #[ptV noPt, .bool false] ∧ Own W5 noX [] W')) ?_
  clear hF; rintro _ W6 a ⟨rfl, hk⟩ hF
  replace hO := hO.call0 hk; clear hk
  refine Vp hF (.tuple #[ptV noPt, .bool false]) ?_; clear hF; intro a hF
  refine Vp hF (ptV noPt) ?_; clear hF; intro a hF
  refine Vp hF (.bool false) ?_; clear hF; intro a hF
  refine L_new hF hO (by kernel_rfl) (by kernel_rfl) (vf := fun b => .pointer (some ⟨b, 0, none⟩)) (ob := .cells #[.bool false, .int .u8 0, .int .u8 0, .int .u8 0, .int .u8 0, .int .u8 0, .int .u8 0, .int .u8 0, .int .u8 0, .int .u8 0, .int .u8 0, .int .u8 0, .int .u8 0, .int .u8 0, .int .u8 0, .int .u8 0, .int .u8 0, .int .i64 0] 45) (by kernel_rfl) (by kernel_rfl) ?_
  clear hF hO; intro b3 W7 a hO hF
  obtain ⟨W8, hst, hO1⟩ := run_storeAt (P := Tryz.prog) (k := 18) (T := 45) (off := 0) (v := ptV noPt) (cs := #[.bool false, .int .u8 0, .int .u8 0, .int .u8 0, .int .u8 0, .int .u8 0, .int .u8 0, .int .u8 0, .int .u8 0, .int .u8 0, .int .u8 0, .int .u8 0, .int .u8 0, .int .u8 0, .int .u8 0, .int .u8 0, .int .u8 0, .int .i64 0]) (cs' := #[.bool noPt.ip.six, .int .u8 ((noPt.ip.b0.toNat : Int)), .int .u8 ((noPt.ip.b1.toNat : Int)), .int .u8 ((noPt.ip.b2.toNat : Int)), .int .u8 ((noPt.ip.b3.toNat : Int)), .int .u8 ((noPt.ip.b4.toNat : Int)), .int .u8 ((noPt.ip.b5.toNat : Int)), .int .u8 ((noPt.ip.b6.toNat : Int)), .int .u8 ((noPt.ip.b7.toNat : Int)), .int .u8 ((noPt.ip.b8.toNat : Int)), .int .u8 ((noPt.ip.b9.toNat : Int)), .int .u8 ((noPt.ip.b10.toNat : Int)), .int .u8 ((noPt.ip.b11.toNat : Int)), .int .u8 ((noPt.ip.b12.toNat : Int)), .int .u8 ((noPt.ip.b13.toNat : Int)), .int .u8 ((noPt.ip.b14.toNat : Int)), .int .u8 ((noPt.ip.b15.toNat : Int)), .int .i64 (noPt.port)]) hO (by kernel_rfl) (by kernel_rfl) (by kernel_rfl) (Nat.le_of_ble_eq_true (by kernel_rfl)) (by kernel_rfl) (.head _)
  refine L_skip hF (by kernel_rfl) (by kernel_rfl) (x_store (p := .pointer (some ⟨b3, 0, none⟩)) (v := ptV noPt) rfl (by kernel_rfl) (by kernel_rfl) hst) (by kernel_rfl) ?_
  clear hst hF; intro a hF; replace hO := hO1; clear hO1
  refine Vp hF (.bool false) ?_; clear hF; intro a hF
  refine L_nil ?_
  refine hK8 _ _ ?_
  refine wp_seq_k fun K9 hK9 => ?_
  refine wp_seq_k fun K10 hK10 => ?_
  refine wp_region_lit ?_
  refine Vr hF (.agg #[.bool noPt.ip.six, .int .u8 ((noPt.ip.b0.toNat : Int)), .int .u8 ((noPt.ip.b1.toNat : Int)), .int .u8 ((noPt.ip.b2.toNat : Int)), .int .u8 ((noPt.ip.b3.toNat : Int)), .int .u8 ((noPt.ip.b4.toNat : Int)), .int .u8 ((noPt.ip.b5.toNat : Int)), .int .u8 ((noPt.ip.b6.toNat : Int)), .int .u8 ((noPt.ip.b7.toNat : Int)), .int .u8 ((noPt.ip.b8.toNat : Int)), .int .u8 ((noPt.ip.b9.toNat : Int)), .int .u8 ((noPt.ip.b10.toNat : Int)), .int .u8 ((noPt.ip.b11.toNat : Int)), .int .u8 ((noPt.ip.b12.toNat : Int)), .int .u8 ((noPt.ip.b13.toNat : Int)), .int .u8 ((noPt.ip.b14.toNat : Int)), .int .u8 ((noPt.ip.b15.toNat : Int)), .int .i64 (noPt.port)]) (x_load (p := .pointer (some ⟨b2, 0, none⟩)) rfl (by kernel_rfl) (run_loadA (k := 18) (by kernel_rfl) (by kernel_rfl) (hO.blk (List.mem_cons_of_mem _ List.mem_cons_self)) (by kernel_rfl) (by kernel_rfl))) ?_; clear hF; intro a hF
  refine Vr hF (.agg #[.bool noPt.ip.six, .int .u8 ((noPt.ip.b0.toNat : Int)), .int .u8 ((noPt.ip.b1.toNat : Int)), .int .u8 ((noPt.ip.b2.toNat : Int)), .int .u8 ((noPt.ip.b3.toNat : Int)), .int .u8 ((noPt.ip.b4.toNat : Int)), .int .u8 ((noPt.ip.b5.toNat : Int)), .int .u8 ((noPt.ip.b6.toNat : Int)), .int .u8 ((noPt.ip.b7.toNat : Int)), .int .u8 ((noPt.ip.b8.toNat : Int)), .int .u8 ((noPt.ip.b9.toNat : Int)), .int .u8 ((noPt.ip.b10.toNat : Int)), .int .u8 ((noPt.ip.b11.toNat : Int)), .int .u8 ((noPt.ip.b12.toNat : Int)), .int .u8 ((noPt.ip.b13.toNat : Int)), .int .u8 ((noPt.ip.b14.toNat : Int)), .int .u8 ((noPt.ip.b15.toNat : Int)), .int .i64 (noPt.port)]) (x_load (p := .pointer (some ⟨b3, 0, none⟩)) rfl (by kernel_rfl) (run_loadA (k := 18) (by kernel_rfl) (by kernel_rfl) (hO.blk List.mem_cons_self) (by kernel_rfl) (by kernel_rfl))) ?_; clear hF; intro a hF
  refine Vr hF (.bool false) (x_bool (x := !(decide (noPt = noPt))) (notF (decide_eq_true rfl)) (x_nePt (a := noPt) (b := noPt) rfl (by kernel_rfl) (by kernel_rfl))) ?_; clear hF; intro a hF
  refine Vp hF (.bool false) ?_; clear hF; intro a hF
  refine Vp hF (errV ea 3) ?_; clear hF; intro a hF
  refine Vp hF (.bool false) ?_; clear hF; intro a hF
  refine Vp hF (.bool false) ?_; clear hF; intro a hF
  refine Vp hF (.bool false) ?_; clear hF; intro a hF
  refine Vp hF (.bool false) ?_; clear hF; intro a hF
  refine Vp hF (.bool false) ?_; clear hF; intro a hF
  refine Vp hF (.bool false) ?_; clear hF; intro a hF
  refine Vp hF (.bool true) ?_; clear hF; intro a hF
  refine Vp hF (.bool true) ?_; clear hF; intro a hF
  refine Vp hF (errV ea 3) ?_; clear hF; intro a hF
  refine Lc hF (num_err ea 3 W8 (hI ▸ hE.own hO) (by decide)) ?_
  clear hF; rintro _ W9 a ⟨rfl, hk⟩ hF
  replace hO := hO.call0 hk; clear hk
  refine Vp hF (.bool false) ?_; clear hF; intro a hF
  refine Vp hF (.bool false) ?_; clear hF; intro a hF
  refine Vp hF (.bool false) ?_; clear hF; intro a hF
  refine L_nil ?_
  refine hK10 _ _ ?_
  refine cond_f hF (by kernel_rfl) (by kernel_rfl) ?_
  refine wp_skip ?_
  refine hK9 _ _ ?_
  refine wp_seq_k fun K11 hK11 => ?_
  refine wp_region_lit ?_
  refine Vr hF (.agg #[.bool c.ip.six, .int .u8 ((c.ip.b0.toNat : Int)), .int .u8 ((c.ip.b1.toNat : Int)), .int .u8 ((c.ip.b2.toNat : Int)), .int .u8 ((c.ip.b3.toNat : Int)), .int .u8 ((c.ip.b4.toNat : Int)), .int .u8 ((c.ip.b5.toNat : Int)), .int .u8 ((c.ip.b6.toNat : Int)), .int .u8 ((c.ip.b7.toNat : Int)), .int .u8 ((c.ip.b8.toNat : Int)), .int .u8 ((c.ip.b9.toNat : Int)), .int .u8 ((c.ip.b10.toNat : Int)), .int .u8 ((c.ip.b11.toNat : Int)), .int .u8 ((c.ip.b12.toNat : Int)), .int .u8 ((c.ip.b13.toNat : Int)), .int .u8 ((c.ip.b14.toNat : Int)), .int .u8 ((c.ip.b15.toNat : Int)), .int .i64 (c.port)]) (x_load (p := .pointer (some ⟨b1, 0, none⟩)) rfl (by kernel_rfl) (run_loadA (k := 18) (by kernel_rfl) (by kernel_rfl) (hO.blk (List.mem_cons_of_mem _ (List.mem_cons_of_mem _ List.mem_cons_self))) (by kernel_rfl) (by kernel_rfl))) ?_; clear hF; intro a hF
  refine Lc hF (ports_Format c W9 (hG.own hO)) ?_
  clear hF; rintro _ W10 a ⟨rfl, hk⟩ hF
  replace hO := hO.call0 hk; clear hk
  refine Vp hF (.string (fmtPt c)) ?_; clear hF; intro a hF
  refine L_nil ?_
  refine hK11 _ _ ?_
  refine wp_seq_k fun K12 hK12 => ?_
  refine wp_seq_k fun K13 hK13 => ?_
  refine A_start (fun Wx => Own W noX [.blk b3 (.cells #[.bool noPt.ip.six, .int .u8 ((noPt.ip.b0.toNat : Int)), .int .u8 ((noPt.ip.b1.toNat : Int)), .int .u8 ((noPt.ip.b2.toNat : Int)), .int .u8 ((noPt.ip.b3.toNat : Int)), .int .u8 ((noPt.ip.b4.toNat : Int)), .int .u8 ((noPt.ip.b5.toNat : Int)), .int .u8 ((noPt.ip.b6.toNat : Int)), .int .u8 ((noPt.ip.b7.toNat : Int)), .int .u8 ((noPt.ip.b8.toNat : Int)), .int .u8 ((noPt.ip.b9.toNat : Int)), .int .u8 ((noPt.ip.b10.toNat : Int)), .int .u8 ((noPt.ip.b11.toNat : Int)), .int .u8 ((noPt.ip.b12.toNat : Int)), .int .u8 ((noPt.ip.b13.toNat : Int)), .int .u8 ((noPt.ip.b14.toNat : Int)), .int .u8 ((noPt.ip.b15.toNat : Int)), .int .i64 (noPt.port)] 45 (0, 0)), .blk b2 (.cells #[.bool noPt.ip.six, .int .u8 ((noPt.ip.b0.toNat : Int)), .int .u8 ((noPt.ip.b1.toNat : Int)), .int .u8 ((noPt.ip.b2.toNat : Int)), .int .u8 ((noPt.ip.b3.toNat : Int)), .int .u8 ((noPt.ip.b4.toNat : Int)), .int .u8 ((noPt.ip.b5.toNat : Int)), .int .u8 ((noPt.ip.b6.toNat : Int)), .int .u8 ((noPt.ip.b7.toNat : Int)), .int .u8 ((noPt.ip.b8.toNat : Int)), .int .u8 ((noPt.ip.b9.toNat : Int)), .int .u8 ((noPt.ip.b10.toNat : Int)), .int .u8 ((noPt.ip.b11.toNat : Int)), .int .u8 ((noPt.ip.b12.toNat : Int)), .int .u8 ((noPt.ip.b13.toNat : Int)), .int .u8 ((noPt.ip.b14.toNat : Int)), .int .u8 ((noPt.ip.b15.toNat : Int)), .int .i64 (noPt.port)] 45 (0, 0)), .blk b1 (.cells #[.bool c.ip.six, .int .u8 ((c.ip.b0.toNat : Int)), .int .u8 ((c.ip.b1.toNat : Int)), .int .u8 ((c.ip.b2.toNat : Int)), .int .u8 ((c.ip.b3.toNat : Int)), .int .u8 ((c.ip.b4.toNat : Int)), .int .u8 ((c.ip.b5.toNat : Int)), .int .u8 ((c.ip.b6.toNat : Int)), .int .u8 ((c.ip.b7.toNat : Int)), .int .u8 ((c.ip.b8.toNat : Int)), .int .u8 ((c.ip.b9.toNat : Int)), .int .u8 ((c.ip.b10.toNat : Int)), .int .u8 ((c.ip.b11.toNat : Int)), .int .u8 ((c.ip.b12.toNat : Int)), .int .u8 ((c.ip.b13.toNat : Int)), .int .u8 ((c.ip.b14.toNat : Int)), .int .u8 ((c.ip.b15.toNat : Int)), .int .i64 (c.port)] 45 (0, 0))] Wx) (by kernel_rfl) ?_
  replace hO := hO.drewN 1
  generalize hWd : ({ W10 with drawn := W10.drawn + 1 } : World) = W10_d at hO ⊢; clear hWd
  have hS := hO.sub (.cons_cons _ (.cons_cons _ (.cons_cons _ (List.nil_sublist _))))
  refine Tk 0 rfl hF (.agg #[.bool c.ip.six, .int .u8 ((c.ip.b0.toNat : Int)), .int .u8 ((c.ip.b1.toNat : Int)), .int .u8 ((c.ip.b2.toNat : Int)), .int .u8 ((c.ip.b3.toNat : Int)), .int .u8 ((c.ip.b4.toNat : Int)), .int .u8 ((c.ip.b5.toNat : Int)), .int .u8 ((c.ip.b6.toNat : Int)), .int .u8 ((c.ip.b7.toNat : Int)), .int .u8 ((c.ip.b8.toNat : Int)), .int .u8 ((c.ip.b9.toNat : Int)), .int .u8 ((c.ip.b10.toNat : Int)), .int .u8 ((c.ip.b11.toNat : Int)), .int .u8 ((c.ip.b12.toNat : Int)), .int .u8 ((c.ip.b13.toNat : Int)), .int .u8 ((c.ip.b14.toNat : Int)), .int .u8 ((c.ip.b15.toNat : Int)), .int .i64 (c.port)]) (fun Wx hO => x_load (p := .pointer (some ⟨b1, 0, none⟩)) rfl (by kernel_rfl) (run_loadA (k := 18) (by kernel_rfl) (by kernel_rfl) (hO.blk (List.mem_cons_of_mem _ (List.mem_cons_of_mem _ List.mem_cons_self))) (by kernel_rfl) (by kernel_rfl))) hS ?_; clear hF; intro a hF
  refine Tk 2 rfl hF (.agg #[.bool c.ip.six, .int .u8 ((c.ip.b0.toNat : Int)), .int .u8 ((c.ip.b1.toNat : Int)), .int .u8 ((c.ip.b2.toNat : Int)), .int .u8 ((c.ip.b3.toNat : Int)), .int .u8 ((c.ip.b4.toNat : Int)), .int .u8 ((c.ip.b5.toNat : Int)), .int .u8 ((c.ip.b6.toNat : Int)), .int .u8 ((c.ip.b7.toNat : Int)), .int .u8 ((c.ip.b8.toNat : Int)), .int .u8 ((c.ip.b9.toNat : Int)), .int .u8 ((c.ip.b10.toNat : Int)), .int .u8 ((c.ip.b11.toNat : Int)), .int .u8 ((c.ip.b12.toNat : Int)), .int .u8 ((c.ip.b13.toNat : Int)), .int .u8 ((c.ip.b14.toNat : Int)), .int .u8 ((c.ip.b15.toNat : Int)), .int .i64 (c.port)]) (fun Wx hO => x_load (p := .pointer (some ⟨b1, 0, none⟩)) rfl (by kernel_rfl) (run_loadA (k := 18) (by kernel_rfl) (by kernel_rfl) (hO.blk (List.mem_cons_of_mem _ (List.mem_cons_of_mem _ List.mem_cons_self))) (by kernel_rfl) (by kernel_rfl))) hS ?_; clear hF; intro a hF
  refine A_one (i := 1) (listed' := #[true, true, true, false, false, false, false, false, false, false, false]) (by kernel_rfl) rfl (by kernel_rfl) ?_
  refine OpK.lc hF (ports_Point c W10_d) ?_
  clear hF; rintro _ W11 a ⟨rfl, hk⟩ hF
  replace hO := hO.call0 hk; clear hk
  refine ⟨hO.sub (.cons_cons _ (.cons_cons _ (.cons_cons _ (List.nil_sublist _)))), ?_⟩
  refine A_one (i := 3) (listed' := #[true, true, true, true, false, false, false, false, false, false, false]) (by kernel_rfl) rfl (by kernel_rfl) ?_
  refine OpK.lc hF (ref04_PointK c W11) ?_
  clear hF; rintro _ W12 a ⟨rfl, hk⟩ hF
  replace hO := hO.call0 hk; clear hk
  refine ⟨hO.sub (.cons_cons _ (.cons_cons _ (.cons_cons _ (List.nil_sublist _)))), ?_⟩
  have hS := hO.sub (.cons_cons _ (.cons_cons _ (.cons_cons _ (List.nil_sublist _))))
  refine Tk 4 rfl hF (.bool false) (fun Wx _ => (x_bool (x := !((ptOk c) == (ptOk c))) (notF (beq_self_eq_true _)) (by kernel_rfl))) hS ?_; clear hF; intro a hF
  refine Tk 5 rfl hF (.bool false) (fun Wx _ => by kernel_rfl) hS ?_; clear hF; intro a hF
  refine Tk 6 rfl hF (.string (fmtPt c)) (fun Wx _ => by kernel_rfl) hS ?_; clear hF; intro a hF
  refine Tk 7 rfl hF (.agg #[.bool c.ip.six, .int .u8 ((c.ip.b0.toNat : Int)), .int .u8 ((c.ip.b1.toNat : Int)), .int .u8 ((c.ip.b2.toNat : Int)), .int .u8 ((c.ip.b3.toNat : Int)), .int .u8 ((c.ip.b4.toNat : Int)), .int .u8 ((c.ip.b5.toNat : Int)), .int .u8 ((c.ip.b6.toNat : Int)), .int .u8 ((c.ip.b7.toNat : Int)), .int .u8 ((c.ip.b8.toNat : Int)), .int .u8 ((c.ip.b9.toNat : Int)), .int .u8 ((c.ip.b10.toNat : Int)), .int .u8 ((c.ip.b11.toNat : Int)), .int .u8 ((c.ip.b12.toNat : Int)), .int .u8 ((c.ip.b13.toNat : Int)), .int .u8 ((c.ip.b14.toNat : Int)), .int .u8 ((c.ip.b15.toNat : Int)), .int .i64 (c.port)]) (fun Wx hO => x_load (p := .pointer (some ⟨b1, 0, none⟩)) rfl (by kernel_rfl) (run_loadA (k := 18) (by kernel_rfl) (by kernel_rfl) (hO.blk (List.mem_cons_of_mem _ (List.mem_cons_of_mem _ List.mem_cons_self))) (by kernel_rfl) (by kernel_rfl))) hS ?_; clear hF; intro a hF
  refine A_one (i := 8) (listed' := #[true, true, true, true, true, true, true, true, true, false, false]) (by kernel_rfl) rfl (by kernel_rfl) ?_
  refine OpK.lc hF (ref04_Format c W12) ?_
  clear hF; rintro _ W13 a ⟨rfl, hk⟩ hF
  replace hO := hO.call0 hk; clear hk
  refine ⟨hO.sub (.cons_cons _ (.cons_cons _ (.cons_cons _ (List.nil_sublist _)))), ?_⟩
  have hS := hO.sub (.cons_cons _ (.cons_cons _ (.cons_cons _ (List.nil_sublist _))))
  refine Tk 9 rfl hF (.bool false) (fun Wx _ => (x_bool (x := !(strEq (fmtPt c) (fmtPt c))) (notF (strEq_refl _)) (by kernel_rfl))) hS ?_; clear hF; intro a hF
  refine Tk 10 rfl hF (.bool false) (fun Wx _ => by kernel_rfl) hS ?_; clear hF; intro a hF
  refine A_done (by kernel_rfl) ?_
  refine hK13 _ _ ?_
  refine cond_f hF (by kernel_rfl) (by kernel_rfl) ?_
  refine wp_skip ?_
  refine hK12 _ _ ?_
  refine wp_seq_k fun K14 hK14 => ?_
  refine wp_seq_k fun K15 hK15 => ?_
  refine wp_region_lit ?_
  refine Vr hF (.agg #[.bool c.ip.six, .int .u8 ((c.ip.b0.toNat : Int)), .int .u8 ((c.ip.b1.toNat : Int)), .int .u8 ((c.ip.b2.toNat : Int)), .int .u8 ((c.ip.b3.toNat : Int)), .int .u8 ((c.ip.b4.toNat : Int)), .int .u8 ((c.ip.b5.toNat : Int)), .int .u8 ((c.ip.b6.toNat : Int)), .int .u8 ((c.ip.b7.toNat : Int)), .int .u8 ((c.ip.b8.toNat : Int)), .int .u8 ((c.ip.b9.toNat : Int)), .int .u8 ((c.ip.b10.toNat : Int)), .int .u8 ((c.ip.b11.toNat : Int)), .int .u8 ((c.ip.b12.toNat : Int)), .int .u8 ((c.ip.b13.toNat : Int)), .int .u8 ((c.ip.b14.toNat : Int)), .int .u8 ((c.ip.b15.toNat : Int)), .int .i64 (c.port)]) (x_load (p := .pointer (some ⟨b1, 0, none⟩)) rfl (by kernel_rfl) (run_loadA (k := 18) (by kernel_rfl) (by kernel_rfl) (hO.blk (List.mem_cons_of_mem _ (List.mem_cons_of_mem _ List.mem_cons_self))) (by kernel_rfl) (by kernel_rfl))) ?_; clear hF; intro a hF
  refine Lc hF (ref04_PointK c W13) ?_
  clear hF; rintro _ W14 a ⟨rfl, hk⟩ hF
  replace hO := hO.call0 hk; clear hk
  refine Vp hF (.bool (!(ptOk c))) ?_; clear hF; intro a hF
  refine L_nil ?_
  refine hK15 _ _ ?_
  cases q2 : (ptOk c : Bool)
  ·
   replace hF := hF.know (d := 59) (v' := .bool true) (by kernel_rfl) (congrArg Value.bool (notT q2))
   refine cond_t hF (by kernel_rfl) (by kernel_rfl) ?_
   refine wp_seq_k fun K16 hK16 => ?_
   refine wp_region_lit ?_
   refine Vp hF (.bool true) ?_; clear hF; intro a hF
   refine L_nil ?_
   refine hK16 _ _ ?_
   refine wp_ret ?_
   refine then_ret ?_
   refine ret1 hF (v := .bool true) rfl (resT (by kernel_rfl)) (by refine ⟨?_, hO.nil⟩; first | rfl | (exfalso; simp_all; done) | (simp; done)) .ret (.inl rfl)
  ·
   replace hF := hF.know (d := 59) (v' := .bool false) (by kernel_rfl) (congrArg Value.bool (notF q2))
   refine cond_f hF (by kernel_rfl) (by kernel_rfl) ?_
   refine wp_skip ?_
   refine hK14 _ _ ?_
   refine wp_seq_k fun K17 hK17 => ?_
   refine wp_region_lit ?_
   refine Vp hF (.string (fmtPt c)) ?_; clear hF; intro a hF
   refine Lc hF ((ports_Parse I ea (fmtPt c) W14 (hG.own hO) (hE.own hO) h3 (by have := fmtPt_len c; omega)).mono fun v W' h => (⟨by rw [h.1, parse_fmtPt (by assumption)]; rfl, h.2⟩ : v = .tuple #[ptV c, .nilIface] ∧ Own W14 noX [] W')) ?_
   clear hF; rintro _ W15 a ⟨rfl, hk⟩ hF
   replace hO := hO.call0 hk; clear hk
   refine Vp hF (.tuple #[ptV c, .nilIface]) ?_; clear hF; intro a hF
   refine Vp hF (ptV c) ?_; clear hF; intro a hF
   refine Vp hF (.nilIface) ?_; clear hF; intro a hF
   refine L_new hF hO (by kernel_rfl) (by kernel_rfl) (vf := fun b => .pointer (some ⟨b, 0, none⟩)) (ob := .cells #[.bool false, .int .u8 0, .int .u8 0, .int .u8 0, .int .u8 0, .int .u8 0, .int .u8 0, .int .u8 0, .int .u8 0, .int .u8 0, .int .u8 0, .int .u8 0, .int .u8 0, .int .u8 0, .int .u8 0, .int .u8 0, .int .u8 0, .int .i64 0] 45) (by kernel_rfl) (by kernel_rfl) ?_
   clear hF hO; intro b4 W16 a hO hF
   obtain ⟨W17, hst, hO1⟩ := run_storeAt (P := Tryz.prog) (k := 18) (T := 45) (off := 0) (v := ptV c) (cs := #[.bool false, .int .u8 0, .int .u8 0, .int .u8 0, .int .u8 0, .int .u8 0, .int .u8 0, .int .u8 0, .int .u8 0, .int .u8 0, .int .u8 0, .int .u8 0, .int .u8 0, .int .u8 0, .int .u8 0, .int .u8 0, .int .u8 0, .int .i64 0]) (cs' := #[.bool c.ip.six, .int .u8 ((c.ip.b0.toNat : Int)), .int .u8 ((c.ip.b1.toNat : Int)), .int .u8 ((c.ip.b2.toNat : Int)), .int .u8 ((c.ip.b3.toNat : Int)), .int .u8 ((c.ip.b4.toNat : Int)), .int .u8 ((c.ip.b5.toNat : Int)), .int .u8 ((c.ip.b6.toNat : Int)), .int .u8 ((c.ip.b7.toNat : Int)), .int .u8 ((c.ip.b8.toNat : Int)), .int .u8 ((c.ip.b9.toNat : Int)), .int .u8 ((c.ip.b10.toNat : Int)), .int .u8 ((c.ip.b11.toNat : Int)), .int .u8 ((c.ip.b12.toNat : Int)), .int .u8 ((c.ip.b13.toNat : Int)), .int .u8 ((c.ip.b14.toNat : Int)), .int .u8 ((c.ip.b15.toNat : Int)), .int .i64 (c.port)]) hO (by kernel_rfl) (by kernel_rfl) (by kernel_rfl) (Nat.le_of_ble_eq_true (by kernel_rfl)) (by kernel_rfl) (.head _)
   refine L_skip hF (by kernel_rfl) (by kernel_rfl) (x_store (p := .pointer (some ⟨b4, 0, none⟩)) (v := ptV c) rfl (by kernel_rfl) (by kernel_rfl) hst) (by kernel_rfl) ?_
   clear hst hF; intro a hF; replace hO := hO1; clear hO1
   refine Vp hF (.nilIface) ?_; clear hF; intro a hF
   refine L_nil ?_
   refine hK17 _ _ ?_
   refine wp_seq_k fun K18 hK18 => ?_
   refine wp_region_lit ?_
   refine Vp hF (.nilIface) ?_; clear hF; intro a hF
   refine Vp hF (.bool true) ?_; clear hF; intro a hF
   refine Vp hF (.bool true) ?_; clear hF; intro a hF
   refine Vr hF (.agg #[.bool c.ip.six, .int .u8 ((c.ip.b0.toNat : Int)), .int .u8 ((c.ip.b1.toNat : Int)), .int .u8 ((c.ip.b2.toNat : Int)), .int .u8 ((c.ip.b3.toNat : Int)), .int .u8 ((c.ip.b4.toNat : Int)), .int .u8 ((c.ip.b5.toNat : Int)), .int .u8 ((c.ip.b6.toNat : Int)), .int .u8 ((c.ip.b7.toNat : Int)), .int .u8 ((c.ip.b8.toNat : Int)), .int .u8 ((c.ip.b9.toNat : Int)), .int .u8 ((c.ip.b10.toNat : Int)), .int .u8 ((c.ip.b11.toNat : Int)), .int .u8 ((c.ip.b12.toNat : Int)), .int .u8 ((c.ip.b13.toNat : Int)), .int .u8 ((c.ip.b14.toNat : Int)), .int .u8 ((c.ip.b15.toNat : Int)), .int .i64 (c.port)]) (x_load (p := .pointer (some ⟨b4, 0, none⟩)) rfl (by kernel_rfl) (run_loadA (k := 18) (by kernel_rfl) (by kernel_rfl) (hO.blk List.mem_cons_self) (by kernel_rfl) (by kernel_rfl))) ?_; clear hF; intro a hF
   refine Vr hF (.agg #[.bool c.ip.six, .int .u8 ((c.ip.b0.toNat : Int)), .int .u8 ((c.ip.b1.toNat : Int)), .int .u8 ((c.ip.b2.toNat : Int)), .int .u8 ((c.ip.b3.toNat : Int)), .int .u8 ((c.ip.b4.toNat : Int)), .int .u8 ((c.ip.b5.toNat : Int)), .int .u8 ((c.ip.b6.toNat : Int)), .int .u8 ((c.ip.b7.toNat : Int)), .int .u8 ((c.ip.b8.toNat : Int)), .int .u8 ((c.ip.b9.toNat : Int)), .int .u8 ((c.ip.b10.toNat : Int)), .int .u8 ((c.ip.b11.toNat : Int)), .int .u8 ((c.ip.b12.toNat : Int)), .int .u8 ((c.ip.b13.toNat : Int)), .int .u8 ((c.ip.b14.toNat : Int)), .int .u8 ((c.ip.b15.toNat : Int)), .int .i64 (c.port)]) (x_load (p := .pointer (some ⟨b1, 0, none⟩)) rfl (by kernel_rfl) (run_loadA (k := 18) (by kernel_rfl) (by kernel_rfl) (hO.blk (List.mem_cons_of_mem _ (List.mem_cons_of_mem _ (List.mem_cons_of_mem _ List.mem_cons_self)))) (by kernel_rfl) (by kernel_rfl))) ?_; clear hF; intro a hF
   refine Vr hF (.bool true) (x_bool (x := decide (c = c)) (decide_eq_true rfl) (x_eqPt (a := c) (b := c) rfl (by kernel_rfl) (by kernel_rfl))) ?_; clear hF; intro a hF
   refine Vp hF (.bool true) ?_; clear hF; intro a hF
   refine Vp hF (.bool true) ?_; clear hF; intro a hF
   refine L_nil ?_
   refine hK18 _ _ ?_
   refine wp_ret ?_
   refine ret1 hF (v := .bool true) rfl (resT (by kernel_rfl)) (by refine ⟨?_, hO.nil⟩; first | rfl | (exfalso; simp_all; done) | (simp; done)) .ret (.inl rfl)

set_option maxRecDepth 20000 in
theorem law04_PortsPoints_s (I : List Nat) (ea : Nat → Addr) (c : Pt) (s : ByteArray) (x0 : Pt) (W : World) (hG : LibW W) (hE : Errs I ea W) (h3 : I.contains 3 = true) (hI : I = errIs) (hp : parsePt s = some x0) : Ret Tryz.prog 11 #[ptV c, .string s] W fun v W' => v = .bool true ∧ Own W noX [] W' := by
 refine enter Tryz.func11 rfl (n := 72) rfl (by kernel_rfl) (E0 := [(1, .string s), (0, ptV c)]) (by kernel_rfl) ?_
 intro a hF; have hO := Own.start W noX
 refine wp_seq_k fun K1 hK1 => ?_
 refine wp_region_lit ?_
 refine L_new hF hO (by kernel_rfl) (by kernel_rfl) (vf := fun b => .pointer (some ⟨b, 0, none⟩)) (ob := .cells #[.bool c.ip.six, .int .u8 ((c.ip.b0.toNat : Int)), .int .u8 ((c.ip.b1.toNat : Int)), .int .u8 ((c.ip.b2.toNat : Int)), .int .u8 ((c.ip.b3.toNat : Int)), .int .u8 ((c.ip.b4.toNat : Int)), .int .u8 ((c.ip.b5.toNat : Int)), .int .u8 ((c.ip.b6.toNat : Int)), .int .u8 ((c.ip.b7.toNat : Int)), .int .u8 ((c.ip.b8.toNat : Int)), .int .u8 ((c.ip.b9.toNat : Int)), .int .u8 ((c.ip.b10.toNat : Int)), .int .u8 ((c.ip.b11.toNat : Int)), .int .u8 ((c.ip.b12.toNat : Int)), .int .u8 ((c.ip.b13.toNat : Int)), .int .u8 ((c.ip.b14.toNat : Int)), .int .u8 ((c.ip.b15.toNat : Int)), .int .i64 (c.port)] 45) (by kernel_rfl) (by kernel_rfl) ?_
 clear hF hO; intro b1 W1 a hO hF
 refine Vp hF (.bool false) ?_; clear hF; intro a hF
 refine L_nil ?_
 refine hK1 _ _ ?_
 refine wp_seq_k fun K2 hK2 => ?_
 refine wp_seq_k fun K3 hK3 => ?_
 refine wp_region_lit ?_
 refine Lc hF (law04_alive I ea W1 (hG.own hO) (hE.own hO) h3) ?_
 clear hF; rintro _ W2 a ⟨rfl, hk⟩ hF
 replace hO := hO.call0 hk; clear hk
 refine Vp hF (.bool false) ?_; clear hF; intro a hF
 refine L_nil ?_
 refine hK3 _ _ ?_
 refine cond_f hF (by kernel_rfl) (by kernel_rfl) ?_
 refine wp_skip ?_
 refine hK2 _ _ ?_
 refine wp_seq_k fun K4 hK4 => ?_
 refine wp_seq_k fun K5 hK5 => ?_
 refine wp_region_lit ?_
 refine Vp hF (.string s) ?_; clear hF; intro a hF
 refine Vp hF (.int .i64 ((s.size : Int))) ?_; clear hF; intro a hF
 refine Vp hF (.bool (decide ((s.size : Int) > 200))) ?_; clear hF; intro a hF
 refine L_nil ?_
 refine hK5 _ _ ?_
 by_cases q1 : (s.size : Int) > 200
 ·
  replace hF := hF.know (d := 15) (v' := .bool true) (by kernel_rfl) (congrArg Value.bool (decide_eq_true q1))
  refine cond_t hF (by kernel_rfl) (by kernel_rfl) ?_
  refine wp_seq_k fun K6 hK6 => ?_
  refine wp_region_lit ?_
  refine Vp hF (.bool true) ?_; clear hF; intro a hF
  refine L_nil ?_
  refine hK6 _ _ ?_
  refine wp_ret ?_
  refine then_ret ?_
  refine ret1 hF (v := .bool true) rfl (resT (by kernel_rfl)) (by refine ⟨?_, hO.nil⟩; first | rfl | (exfalso; simp_all; done) | (simp; done)) .ret (.inl rfl)
 ·
  replace hF := hF.know (d := 15) (v' := .bool false) (by kernel_rfl) (congrArg Value.bool (decide_eq_false q1))
  refine cond_f hF (by kernel_rfl) (by kernel_rfl) ?_
  refine wp_skip ?_
  refine hK4 _ _ ?_
  refine wp_seq_k fun K7 hK7 => ?_
  refine wp_region_lit ?_
  refine Vp hF (.string s) ?_; clear hF; intro a hF
  refine Lc hF ((ports_Parse I ea s W2 (hG.own hO) (hE.own hO) h3 (by omega)).mono fun v W' h => (⟨by rw [h.1, hp]; rfl, h.2⟩ : v = .tuple #[ptV x0, .nilIface] ∧ Own W2 noX [] W')) ?_
  clear hF; rintro _ W3 a ⟨rfl, hk⟩ hF
  replace hO := hO.call0 hk; clear hk
  refine Vp hF (.tuple #[ptV x0, .nilIface]) ?_; clear hF; intro a hF
  refine Vp hF (ptV x0) ?_; clear hF; intro a hF
  refine Vp hF (.nilIface) ?_; clear hF; intro a hF
  refine L_new hF hO (by kernel_rfl) (by kernel_rfl) (vf := fun b => .pointer (some ⟨b, 0, none⟩)) (ob := .cells #[.bool false, .int .u8 0, .int .u8 0, .int .u8 0, .int .u8 0, .int .u8 0, .int .u8 0, .int .u8 0, .int .u8 0, .int .u8 0, .int .u8 0, .int .u8 0, .int .u8 0, .int .u8 0, .int .u8 0, .int .u8 0, .int .u8 0, .int .i64 0] 45) (by kernel_rfl) (by kernel_rfl) ?_
  clear hF hO; intro b2 W4 a hO hF
  obtain ⟨W5, hst, hO1⟩ := run_storeAt (P := Tryz.prog) (k := 18) (T := 45) (off := 0) (v := ptV x0) (cs := #[.bool false, .int .u8 0, .int .u8 0, .int .u8 0, .int .u8 0, .int .u8 0, .int .u8 0, .int .u8 0, .int .u8 0, .int .u8 0, .int .u8 0, .int .u8 0, .int .u8 0, .int .u8 0, .int .u8 0, .int .u8 0, .int .u8 0, .int .i64 0]) (cs' := #[.bool x0.ip.six, .int .u8 ((x0.ip.b0.toNat : Int)), .int .u8 ((x0.ip.b1.toNat : Int)), .int .u8 ((x0.ip.b2.toNat : Int)), .int .u8 ((x0.ip.b3.toNat : Int)), .int .u8 ((x0.ip.b4.toNat : Int)), .int .u8 ((x0.ip.b5.toNat : Int)), .int .u8 ((x0.ip.b6.toNat : Int)), .int .u8 ((x0.ip.b7.toNat : Int)), .int .u8 ((x0.ip.b8.toNat : Int)), .int .u8 ((x0.ip.b9.toNat : Int)), .int .u8 ((x0.ip.b10.toNat : Int)), .int .u8 ((x0.ip.b11.toNat : Int)), .int .u8 ((x0.ip.b12.toNat : Int)), .int .u8 ((x0.ip.b13.toNat : Int)), .int .u8 ((x0.ip.b14.toNat : Int)), .int .u8 ((x0.ip.b15.toNat : Int)), .int .i64 (x0.port)]) hO (by kernel_rfl) (by kernel_rfl) (by kernel_rfl) (Nat.le_of_ble_eq_true (by kernel_rfl)) (by kernel_rfl) (.head _)
  refine L_skip hF (by kernel_rfl) (by kernel_rfl) (x_store (p := .pointer (some ⟨b2, 0, none⟩)) (v := ptV x0) rfl (by kernel_rfl) (by kernel_rfl) hst) (by kernel_rfl) ?_
  clear hst hF; intro a hF; replace hO := hO1; clear hO1
  refine Vp hF (.nilIface) ?_; clear hF; intro a hF
  refine L_nil ?_
  refine hK7 _ _ ?_
  refine wp_seq_k fun K8 hK8 => ?_
  refine wp_region_lit ?_
  refine Vp hF (.string s) ?_; clear hF; intro a hF
  refine Lc hF ((ref04_Parse s W5 (by omega)).mono fun v W' h => (⟨by rw [h.1, hp]; rfl, h.2⟩ : v = .tuple #[ptV x0, .bool true] ∧ Own W5 noX [] W')) ?_
  clear hF; rintro _ W6 a ⟨rfl, hk⟩ hF
  replace hO := hO.call0 hk; clear hk
  refine Vp hF (.tuple #[ptV x0, .bool true]) ?_; clear hF; intro a hF
  refine Vp hF (ptV x0) ?_; clear hF; intro a hF
  refine Vp hF (.bool true) ?_; clear hF; intro a hF
  refine L_new hF hO (by kernel_rfl) (by kernel_rfl) (vf := fun b => .pointer (some ⟨b, 0, none⟩)) (ob := .cells #[.bool false, .int .u8 0, .int .u8 0, .int .u8 0, .int .u8 0, .int .u8 0, .int .u8 0, .int .u8 0, .int .u8 0, .int .u8 0, .int .u8 0, .int .u8 0, .int .u8 0, .int .u8 0, .int .u8 0, .int .u8 0, .int .u8 0, .int .i64 0] 45) (by kernel_rfl) (by kernel_rfl) ?_
  clear hF hO; intro b3 W7 a hO hF
  obtain ⟨W8, hst, hO1⟩ := run_storeAt (P := Tryz.prog) (k := 18) (T := 45) (off := 0) (v := ptV x0) (cs := #[.bool false, .int .u8 0, .int .u8 0, .int .u8 0, .int .u8 0, .int .u8 0, .int .u8 0, .int .u8 0, .int .u8 0, .int .u8 0, .int .u8 0, .int .u8 0, .int .u8 0, .int .u8 0, .int .u8 0, .int .u8 0, .int .u8 0, .int .i64 0]) (cs' := #[.bool x0.ip.six, .int .u8 ((x0.ip.b0.toNat : Int)), .int .u8 ((x0.ip.b1.toNat : Int)), .int .u8 ((x0.ip.b2.toNat : Int)), .int .u8 ((x0.ip.b3.toNat : Int)), .int .u8 ((x0.ip.b4.toNat : Int)), .int .u8 ((x0.ip.b5.toNat : Int)), .int .u8 ((x0.ip.b6.toNat : Int)), .int .u8 ((x0.ip.b7.toNat : Int)), .int .u8 ((x0.ip.b8.toNat : Int)), .int .u8 ((x0.ip.b9.toNat : Int)), .int .u8 ((x0.ip.b10.toNat : Int)), .int .u8 ((x0.ip.b11.toNat : Int)), .int .u8 ((x0.ip.b12.toNat : Int)), .int .u8 ((x0.ip.b13.toNat : Int)), .int .u8 ((x0.ip.b14.toNat : Int)), .int .u8 ((x0.ip.b15.toNat : Int)), .int .i64 (x0.port)]) hO (by kernel_rfl) (by kernel_rfl) (by kernel_rfl) (Nat.le_of_ble_eq_true (by kernel_rfl)) (by kernel_rfl) (.head _)
  refine L_skip hF (by kernel_rfl) (by kernel_rfl) (x_store (p := .pointer (some ⟨b3, 0, none⟩)) (v := ptV x0) rfl (by kernel_rfl) (by kernel_rfl) hst) (by kernel_rfl) ?_
  clear hst hF; intro a hF; replace hO := hO1; clear hO1
  refine Vp hF (.bool true) ?_; clear hF; intro a hF
  refine L_nil ?_
  refine hK8 _ _ ?_
  refine wp_seq_k fun K9 hK9 => ?_
  refine wp_seq_k fun K10 hK10 => ?_
  refine wp_region_lit ?_
  refine Vr hF (.agg #[.bool x0.ip.six, .int .u8 ((x0.ip.b0.toNat : Int)), .int .u8 ((x0.ip.b1.toNat : Int)), .int .u8 ((x0.ip.b2.toNat : Int)), .int .u8 ((x0.ip.b3.toNat : Int)), .int .u8 ((x0.ip.b4.toNat : Int)), .int .u8 ((x0.ip.b5.toNat : Int)), .int .u8 ((x0.ip.b6.toNat : Int)), .int .u8 ((x0.ip.b7.toNat : Int)), .int .u8 ((x0.ip.b8.toNat : Int)), .int .u8 ((x0.ip.b9.toNat : Int)), .int .u8 ((x0.ip.b10.toNat : Int)), .int .u8 ((x0.ip.b11.toNat : Int)), .int .u8 ((x0.ip.b12.toNat : Int)), .int .u8 ((x0.ip.b13.toNat : Int)), .int .u8 ((x0.ip.b14.toNat : Int)), .int .u8 ((x0.ip.b15.toNat : Int)), .int .i64 (x0.port)]) (x_load (p := .pointer (some ⟨b2, 0, none⟩)) rfl (by kernel_rfl) (run_loadA (k := 18) (by kernel_rfl) (by kernel_rfl) (hO.blk (List.mem_cons_of_mem _ List.mem_cons_self)) (by kernel_rfl) (by kernel_rfl))) ?_; clear hF; intro a hF
  refine Vr hF (.agg #[.bool x0.ip.six, .int .u8 ((x0.ip.b0.toNat : Int)), .int .u8 ((x0.ip.b1.toNat : Int)), .int .u8 ((x0.ip.b2.toNat : Int)), .int .u8 ((x0.ip.b3.toNat : Int)), .int .u8 ((x0.ip.b4.toNat : Int)), .int .u8 ((x0.ip.b5.toNat : Int)), .int .u8 ((x0.ip.b6.toNat : Int)), .int .u8 ((x0.ip.b7.toNat : Int)), .int .u8 ((x0.ip.b8.toNat : Int)), .int .u8 ((x0.ip.b9.toNat : Int)), .int .u8 ((x0.ip.b10.toNat : Int)), .int .u8 ((x0.ip.b11.toNat : Int)), .int .u8 ((x0.ip.b12.toNat : Int)), .int .u8 ((x0.ip.b13.toNat : Int)), .int .u8 ((x0.ip.b14.toNat : Int)), .int .u8 ((x0.ip.b15.toNat : Int)), .int .i64 (x0.port)]) (x_load (p := .pointer (some ⟨b3, 0, none⟩)) rfl (by kernel_rfl) (run_loadA (k := 18) (by kernel_rfl) (by kernel_rfl) (hO.blk List.mem_cons_self) (by kernel_rfl) (by kernel_rfl))) ?_; clear hF; intro a hF
  refine Vr hF (.bool false) (x_bool (x := !(decide (x0 = x0))) (notF (decide_eq_true rfl)) (x_nePt (a := x0) (b := x0) rfl (by kernel_rfl) (by kernel_rfl))) ?_; clear hF; intro a hF
  refine Vp hF (.bool false) ?_; clear hF; intro a hF
  refine Vp hF (.nilIface) ?_; clear hF; intro a hF
  refine Vp hF (.bool true) ?_; clear hF; intro a hF
  refine Vp hF (.bool true) ?_; clear hF; intro a hF
  refine Vp hF (.bool false) ?_; clear hF; intro a hF
  refine Vp hF (.bool false) ?_; clear hF; intro a hF
  refine Vp hF (.bool false) ?_; clear hF; intro a hF
  refine Vp hF (.bool true) ?_; clear hF; intro a hF
  refine Vp hF (.bool false) ?_; clear hF; intro a hF
  refine Vp hF (.bool false) ?_; clear hF; intro a hF
  refine Lo hF ?_; clear hF; intro a hF
  refine Lo hF ?_; clear hF; intro a hF
  refine Lo hF ?_; clear hF; intro a hF
  refine Vp hF (.bool false) ?_; clear hF; intro a hF
  refine Vp hF (.bool false) ?_; clear hF; intro a hF
  refine L_nil ?_
  refine hK10 _ _ ?_
  refine cond_f hF (by kernel_rfl) (by kernel_rfl) ?_
  refine wp_skip ?_
  refine hK9 _ _ ?_
  refine wp_seq_k fun K11 hK11 => ?_
  refine wp_region_lit ?_
  refine Vr hF (.agg #[.bool c.ip.six, .int .u8 ((c.ip.b0.toNat : Int)), .int .u8 ((c.ip.b1.toNat : Int)), .int .u8 ((c.ip.b2.toNat : Int)), .int .u8 ((c.ip.b3.toNat : Int)), .int .u8 ((c.ip.b4.toNat : Int)), .int .u8 ((c.ip.b5.toNat : Int)), .int .u8 ((c.ip.b6.toNat : Int)), .int .u8 ((c.ip.b7.toNat : Int)), .int .u8 ((c.ip.b8.toNat : Int)), .int .u8 ((c.ip.b9.toNat : Int)), .int .u8 ((c.ip.b10.toNat : Int)), .int .u8 ((c.ip.b11.toNat : Int)), .int .u8 ((c.ip.b12.toNat : Int)), .int .u8 ((c.ip.b13.toNat : Int)), .int .u8 ((c.ip.b14.toNat : Int)), .int .u8 ((c.ip.b15.toNat : Int)), .int .i64 (c.port)]) (x_load (p := .pointer (some ⟨b1, 0, none⟩)) rfl (by kernel_rfl) (run_loadA (k := 18) (by kernel_rfl) (by kernel_rfl) (hO.blk (List.mem_cons_of_mem _ (List.mem_cons_of_mem _ List.mem_cons_self))) (by kernel_rfl) (by kernel_rfl))) ?_; clear hF; intro a hF
  refine Lc hF (ports_Format c W8 (hG.own hO)) ?_
  clear hF; rintro _ W9 a ⟨rfl, hk⟩ hF
  replace hO := hO.call0 hk; clear hk
  refine Vp hF (.string (fmtPt c)) ?_; clear hF; intro a hF
  refine L_nil ?_
  refine hK11 _ _ ?_
  refine wp_seq_k fun K12 hK12 => ?_
  refine wp_seq_k fun K13 hK13 => ?_
  refine A_start (fun Wx => Own W noX [.blk b3 (.cells #[.bool x0.ip.six, .int .u8 ((x0.ip.b0.toNat : Int)), .int .u8 ((x0.ip.b1.toNat : Int)), .int .u8 ((x0.ip.b2.toNat : Int)), .int .u8 ((x0.ip.b3.toNat : Int)), .int .u8 ((x0.ip.b4.toNat : Int)), .int .u8 ((x0.ip.b5.toNat : Int)), .int .u8 ((x0.ip.b6.toNat : Int)), .int .u8 ((x0.ip.b7.toNat : Int)), .int .u8 ((x0.ip.b8.toNat : Int)), .int .u8 ((x0.ip.b9.toNat : Int)), .int .u8 ((x0.ip.b10.toNat : Int)), .int .u8 ((x0.ip.b11.toNat : Int)), .int .u8 ((x0.ip.b12.toNat : Int)), .int .u8 ((x0.ip.b13.toNat : Int)), .int .u8 ((x0.ip.b14.toNat : Int)), .int .u8 ((x0.ip.b15.toNat : Int)), .int .i64 (x0.port)] 45 (0, 0)), .blk b2 (.cells #[.bool x0.ip.six, .int .u8 ((x0.ip.b0.toNat : Int)), .int .u8 ((x0.ip.b1.toNat : Int)), .int .u8 ((x0.ip.b2.toNat : Int)), .int .u8 ((x0.ip.b3.toNat : Int)), .int .u8 ((x0.ip.b4.toNat : Int)), .int .u8 ((x0.ip.b5.toNat : Int)), .int .u8 ((x0.ip.b6.toNat : Int)), .int .u8 ((x0.ip.b7.toNat : Int)), .int .u8 ((x0.ip.b8.toNat : Int)), .int .u8 ((x0.ip.b9.toNat : Int)), .int .u8 ((x0.ip.b10.toNat : Int)), .int .u8 ((x0.ip.b11.toNat : Int)), .int .u8 ((x0.ip.b12.toNat : Int)), .int .u8 ((x0.ip.b13.toNat : Int)), .int .u8 ((x0.ip.b14.toNat : Int)), .int .u8 ((x0.ip.b15.toNat : Int)), .int .i64 (x0.port)] 45 (0, 0)), .blk b1 (.cells #[.bool c.ip.six, .int .u8 ((c.ip.b0.toNat : Int)), .int .u8 ((c.ip.b1.toNat : Int)), .int .u8 ((c.ip.b2.toNat : Int)), .int .u8 ((c.ip.b3.toNat : Int)), .int .u8 ((c.ip.b4.toNat : Int)), .int .u8 ((c.ip.b5.toNat : Int)), .int .u8 ((c.ip.b6.toNat : Int)), .int .u8 ((c.ip.b7.toNat : Int)), .int .u8 ((c.ip.b8.toNat : Int)), .int .u8 ((c.ip.b9.toNat : Int)), .int .u8 ((c.ip.b10.toNat : Int)), .int .u8 ((c.ip.b11.toNat : Int)), .int .u8 ((c.ip.b12.toNat : Int)), .int .u8 ((c.ip.b13.toNat : Int)), .int .u8 ((c.ip.b14.toNat : Int)), .int .u8 ((c.ip.b15.toNat : Int)), .int .i64 (c.port)] 45 (0, 0))] Wx) (by kernel_rfl) ?_
  replace hO := hO.drewN 1
  generalize hWd : ({ W9 with drawn := W9.drawn + 1 } : World) = W9_d at hO ⊢; clear hWd
  have hS := hO.sub (.cons_cons _ (.cons_cons _ (.cons_cons _ (List.nil_sublist _))))
  refine Tk 0 rfl hF (.agg #[.bool c.ip.six, .int .u8 ((c.ip.b0.toNat : Int)), .int .u8 ((c.ip.b1.toNat : Int)), .int .u8 ((c.ip.b2.toNat : Int)), .int .u8 ((c.ip.b3.toNat : Int)), .int .u8 ((c.ip.b4.toNat : Int)), .int .u8 ((c.ip.b5.toNat : Int)), .int .u8 ((c.ip.b6.toNat : Int)), .int .u8 ((c.ip.b7.toNat : Int)), .int .u8 ((c.ip.b8.toNat : Int)), .int .u8 ((c.ip.b9.toNat : Int)), .int .u8 ((c.ip.b10.toNat : Int)), .int .u8 ((c.ip.b11.toNat : Int)), .int .u8 ((c.ip.b12.toNat : Int)), .int .u8 ((c.ip.b13.toNat : Int)), .int .u8 ((c.ip.b14.toNat : Int)), .int .u8 ((c.ip.b15.toNat : Int)), .int .i64 (c.port)]) (fun Wx hO => x_load (p := .pointer (some ⟨b1, 0, none⟩)) rfl (by kernel_rfl) (run_loadA (k := 18) (by kernel_rfl) (by kernel_rfl) (hO.blk (List.mem_cons_of_mem _ (List.mem_cons_of_mem _ List.mem_cons_self))) (by kernel_rfl) (by kernel_rfl))) hS ?_; clear hF; intro a hF
  refine Tk 2 rfl hF (.agg #[.bool c.ip.six, .int .u8 ((c.ip.b0.toNat : Int)), .int .u8 ((c.ip.b1.toNat : Int)), .int .u8 ((c.ip.b2.toNat : Int)), .int .u8 ((c.ip.b3.toNat : Int)), .int .u8 ((c.ip.b4.toNat : Int)), .int .u8 ((c.ip.b5.toNat : Int)), .int .u8 ((c.ip.b6.toNat : Int)), .int .u8 ((c.ip.b7.toNat : Int)), .int .u8 ((c.ip.b8.toNat : Int)), .int .u8 ((c.ip.b9.toNat : Int)), .int .u8 ((c.ip.b10.toNat : Int)), .int .u8 ((c.ip.b11.toNat : Int)), .int .u8 ((c.ip.b12.toNat : Int)), .int .u8 ((c.ip.b13.toNat : Int)), .int .u8 ((c.ip.b14.toNat : Int)), .int .u8 ((c.ip.b15.toNat : Int)), .int .i64 (c.port)]) (fun Wx hO => x_load (p := .pointer (some ⟨b1, 0, none⟩)) rfl (by kernel_rfl) (run_loadA (k := 18) (by kernel_rfl) (by kernel_rfl) (hO.blk (List.mem_cons_of_mem _ (List.mem_cons_of_mem _ List.mem_cons_self))) (by kernel_rfl) (by kernel_rfl))) hS ?_; clear hF; intro a hF
  refine A_one (i := 1) (listed' := #[true, true, true, false, false, false, false, false, false, false, false]) (by kernel_rfl) rfl (by kernel_rfl) ?_
  refine OpK.lc hF (ports_Point c W9_d) ?_
  clear hF; rintro _ W10 a ⟨rfl, hk⟩ hF
  replace hO := hO.call0 hk; clear hk
  refine ⟨hO.sub (.cons_cons _ (.cons_cons _ (.cons_cons _ (List.nil_sublist _)))), ?_⟩
  refine A_one (i := 3) (listed' := #[true, true, true, true, false, false, false, false, false, false, false]) (by kernel_rfl) rfl (by kernel_rfl) ?_
  refine OpK.lc hF (ref04_PointK c W10) ?_
  clear hF; rintro _ W11 a ⟨rfl, hk⟩ hF
  replace hO := hO.call0 hk; clear hk
  refine ⟨hO.sub (.cons_cons _ (.cons_cons _ (.cons_cons _ (List.nil_sublist _)))), ?_⟩
  have hS := hO.sub (.cons_cons _ (.cons_cons _ (.cons_cons _ (List.nil_sublist _))))
  refine Tk 4 rfl hF (.bool false) (fun Wx _ => (x_bool (x := !((ptOk c) == (ptOk c))) (notF (beq_self_eq_true _)) (by kernel_rfl))) hS ?_; clear hF; intro a hF
  refine Tk 5 rfl hF (.bool false) (fun Wx _ => by kernel_rfl) hS ?_; clear hF; intro a hF
  refine Tk 6 rfl hF (.string (fmtPt c)) (fun Wx _ => by kernel_rfl) hS ?_; clear hF; intro a hF
  refine Tk 7 rfl hF (.agg #[.bool c.ip.six, .int .u8 ((c.ip.b0.toNat : Int)), .int .u8 ((c.ip.b1.toNat : Int)), .int .u8 ((c.ip.b2.toNat : Int)), .int .u8 ((c.ip.b3.toNat : Int)), .int .u8 ((c.ip.b4.toNat : Int)), .int .u8 ((c.ip.b5.toNat : Int)), .int .u8 ((c.ip.b6.toNat : Int)), .int .u8 ((c.ip.b7.toNat : Int)), .int .u8 ((c.ip.b8.toNat : Int)), .int .u8 ((c.ip.b9.toNat : Int)), .int .u8 ((c.ip.b10.toNat : Int)), .int .u8 ((c.ip.b11.toNat : Int)), .int .u8 ((c.ip.b12.toNat : Int)), .int .u8 ((c.ip.b13.toNat : Int)), .int .u8 ((c.ip.b14.toNat : Int)), .int .u8 ((c.ip.b15.toNat : Int)), .int .i64 (c.port)]) (fun Wx hO => x_load (p := .pointer (some ⟨b1, 0, none⟩)) rfl (by kernel_rfl) (run_loadA (k := 18) (by kernel_rfl) (by kernel_rfl) (hO.blk (List.mem_cons_of_mem _ (List.mem_cons_of_mem _ List.mem_cons_self))) (by kernel_rfl) (by kernel_rfl))) hS ?_; clear hF; intro a hF
  refine A_one (i := 8) (listed' := #[true, true, true, true, true, true, true, true, true, false, false]) (by kernel_rfl) rfl (by kernel_rfl) ?_
  refine OpK.lc hF (ref04_Format c W11) ?_
  clear hF; rintro _ W12 a ⟨rfl, hk⟩ hF
  replace hO := hO.call0 hk; clear hk
  refine ⟨hO.sub (.cons_cons _ (.cons_cons _ (.cons_cons _ (List.nil_sublist _)))), ?_⟩
  have hS := hO.sub (.cons_cons _ (.cons_cons _ (.cons_cons _ (List.nil_sublist _))))
  refine Tk 9 rfl hF (.bool false) (fun Wx _ => (x_bool (x := !(strEq (fmtPt c) (fmtPt c))) (notF (strEq_refl _)) (by kernel_rfl))) hS ?_; clear hF; intro a hF
  refine Tk 10 rfl hF (.bool false) (fun Wx _ => by kernel_rfl) hS ?_; clear hF; intro a hF
  refine A_done (by kernel_rfl) ?_
  refine hK13 _ _ ?_
  refine cond_f hF (by kernel_rfl) (by kernel_rfl) ?_
  refine wp_skip ?_
  refine hK12 _ _ ?_
  refine wp_seq_k fun K14 hK14 => ?_
  refine wp_seq_k fun K15 hK15 => ?_
  refine wp_region_lit ?_
  refine Vr hF (.agg #[.bool c.ip.six, .int .u8 ((c.ip.b0.toNat : Int)), .int .u8 ((c.ip.b1.toNat : Int)), .int .u8 ((c.ip.b2.toNat : Int)), .int .u8 ((c.ip.b3.toNat : Int)), .int .u8 ((c.ip.b4.toNat : Int)), .int .u8 ((c.ip.b5.toNat : Int)), .int .u8 ((c.ip.b6.toNat : Int)), .int .u8 ((c.ip.b7.toNat : Int)), .int .u8 ((c.ip.b8.toNat : Int)), .int .u8 ((c.ip.b9.toNat : Int)), .int .u8 ((c.ip.b10.toNat : Int)), .int .u8 ((c.ip.b11.toNat : Int)), .int .u8 ((c.ip.b12.toNat : Int)), .int .u8 ((c.ip.b13.toNat : Int)), .int .u8 ((c.ip.b14.toNat : Int)), .int .u8 ((c.ip.b15.toNat : Int)), .int .i64 (c.port)]) (x_load (p := .pointer (some ⟨b1, 0, none⟩)) rfl (by kernel_rfl) (run_loadA (k := 18) (by kernel_rfl) (by kernel_rfl) (hO.blk (List.mem_cons_of_mem _ (List.mem_cons_of_mem _ List.mem_cons_self))) (by kernel_rfl) (by kernel_rfl))) ?_; clear hF; intro a hF
  refine Lc hF (ref04_PointK c W12) ?_
  clear hF; rintro _ W13 a ⟨rfl, hk⟩ hF
  replace hO := hO.call0 hk; clear hk
  refine Vp hF (.bool (!(ptOk c))) ?_; clear hF; intro a hF
  refine L_nil ?_
  refine hK15 _ _ ?_
  cases q2 : (ptOk c : Bool)
  ·
   replace hF := hF.know (d := 59) (v' := .bool true) (by kernel_rfl) (congrArg Value.bool (notT q2))
   refine cond_t hF (by kernel_rfl) (by kernel_rfl) ?_
   refine wp_seq_k fun K16 hK16 => ?_
   refine wp_region_lit ?_
   refine Vp hF (.bool true) ?_; clear hF; intro a hF
   refine L_nil ?_
   refine hK16 _ _ ?_
   refine wp_ret ?_
   refine then_ret ?_
   refine ret1 hF (v := .bool true) rfl (resT (by kernel_rfl)) (by refine ⟨?_, hO.nil⟩; first | rfl | (exfalso; simp_all; done) | (simp; done)) .ret (.inl rfl)
  ·
   replace hF := hF.know (d := 59) (v' := .bool false) (by kernel_rfl) (congrArg Value.bool (notF q2))
   refine cond_f hF (by kernel_rfl) (by kernel_rfl) ?_
   refine wp_skip ?_
   refine hK14 _ _ ?_
   refine wp_seq_k fun K17 hK17 => ?_
   refine wp_region_lit ?_
   refine Vp hF (.string (fmtPt c)) ?_; clear hF; intro a hF
   refine Lc hF ((ports_Parse I ea (fmtPt c) W13 (hG.own hO) (hE.own hO) h3 (by have := fmtPt_len c; omega)).mono fun v W' h => (⟨by rw [h.1, parse_fmtPt (by assumption)]; rfl, h.2⟩ : v = .tuple #[ptV c, .nilIface] ∧ Own W13 noX [] W')) ?_
   clear hF; rintro _ W14 a ⟨rfl, hk⟩ hF
   replace hO := hO.call0 hk; clear hk
   refine Vp hF (.tuple #[ptV c, .nilIface]) ?_; clear hF; intro a hF
   refine Vp hF (ptV c) ?_; clear hF; intro a hF
   refine Vp hF (.nilIface) ?_; clear hF; intro a hF
   refine L_new hF hO (by kernel_rfl) (by kernel_rfl) (vf := fun b => .pointer (some ⟨b, 0, none⟩)) (ob := .cells #[.bool false, .int .u8 0, .int .u8 0, .int .u8 0, .int .u8 0, .int .u8 0, .int .u8 0, .int .u8 0, .int .u8 0, .int .u8 0, .int .u8 0, .int .u8 0, .int .u8 0, .int .u8 0, .int .u8 0, .int .u8 0, .int .u8 0, .int .i64 0] 45) (by kernel_rfl) (by kernel_rfl) ?_
   clear hF hO; intro b4 W15 a hO hF
   obtain ⟨W16, hst, hO1⟩ := run_storeAt (P := Tryz.prog) (k := 18) (T := 45) (off := 0) (v := ptV c) (cs := #[.bool false, .int .u8 0, .int .u8 0, .int .u8 0, .int .u8 0, .int .u8 0, .int .u8 0, .int .u8 0, .int .u8 0, .int .u8 0, .int .u8 0, .int .u8 0, .int .u8 0, .int .u8 0, .int .u8 0, .int .u8 0, .int .u8 0, .int .i64 0]) (cs' := #[.bool c.ip.six, .int .u8 ((c.ip.b0.toNat : Int)), .int .u8 ((c.ip.b1.toNat : Int)), .int .u8 ((c.ip.b2.toNat : Int)), .int .u8 ((c.ip.b3.toNat : Int)), .int .u8 ((c.ip.b4.toNat : Int)), .int .u8 ((c.ip.b5.toNat : Int)), .int .u8 ((c.ip.b6.toNat : Int)), .int .u8 ((c.ip.b7.toNat : Int)), .int .u8 ((c.ip.b8.toNat : Int)), .int .u8 ((c.ip.b9.toNat : Int)), .int .u8 ((c.ip.b10.toNat : Int)), .int .u8 ((c.ip.b11.toNat : Int)), .int .u8 ((c.ip.b12.toNat : Int)), .int .u8 ((c.ip.b13.toNat : Int)), .int .u8 ((c.ip.b14.toNat : Int)), .int .u8 ((c.ip.b15.toNat : Int)), .int .i64 (c.port)]) hO (by kernel_rfl) (by kernel_rfl) (by kernel_rfl) (Nat.le_of_ble_eq_true (by kernel_rfl)) (by kernel_rfl) (.head _)
   refine L_skip hF (by kernel_rfl) (by kernel_rfl) (x_store (p := .pointer (some ⟨b4, 0, none⟩)) (v := ptV c) rfl (by kernel_rfl) (by kernel_rfl) hst) (by kernel_rfl) ?_
   clear hst hF; intro a hF; replace hO := hO1; clear hO1
   refine Vp hF (.nilIface) ?_; clear hF; intro a hF
   refine L_nil ?_
   refine hK17 _ _ ?_
   refine wp_seq_k fun K18 hK18 => ?_
   refine wp_region_lit ?_
   refine Vp hF (.nilIface) ?_; clear hF; intro a hF
   refine Vp hF (.bool true) ?_; clear hF; intro a hF
   refine Vp hF (.bool true) ?_; clear hF; intro a hF
   refine Vr hF (.agg #[.bool c.ip.six, .int .u8 ((c.ip.b0.toNat : Int)), .int .u8 ((c.ip.b1.toNat : Int)), .int .u8 ((c.ip.b2.toNat : Int)), .int .u8 ((c.ip.b3.toNat : Int)), .int .u8 ((c.ip.b4.toNat : Int)), .int .u8 ((c.ip.b5.toNat : Int)), .int .u8 ((c.ip.b6.toNat : Int)), .int .u8 ((c.ip.b7.toNat : Int)), .int .u8 ((c.ip.b8.toNat : Int)), .int .u8 ((c.ip.b9.toNat : Int)), .int .u8 ((c.ip.b10.toNat : Int)), .int .u8 ((c.ip.b11.toNat : Int)), .int .u8 ((c.ip.b12.toNat : Int)), .int .u8 ((c.ip.b13.toNat : Int)), .int .u8 ((c.ip.b14.toNat : Int)), .int .u8 ((c.ip.b15.toNat : Int)), .int .i64 (c.port)]) (x_load (p := .pointer (some ⟨b4, 0, none⟩)) rfl (by kernel_rfl) (run_loadA (k := 18) (by kernel_rfl) (by kernel_rfl) (hO.blk List.mem_cons_self) (by kernel_rfl) (by kernel_rfl))) ?_; clear hF; intro a hF
   refine Vr hF (.agg #[.bool c.ip.six, .int .u8 ((c.ip.b0.toNat : Int)), .int .u8 ((c.ip.b1.toNat : Int)), .int .u8 ((c.ip.b2.toNat : Int)), .int .u8 ((c.ip.b3.toNat : Int)), .int .u8 ((c.ip.b4.toNat : Int)), .int .u8 ((c.ip.b5.toNat : Int)), .int .u8 ((c.ip.b6.toNat : Int)), .int .u8 ((c.ip.b7.toNat : Int)), .int .u8 ((c.ip.b8.toNat : Int)), .int .u8 ((c.ip.b9.toNat : Int)), .int .u8 ((c.ip.b10.toNat : Int)), .int .u8 ((c.ip.b11.toNat : Int)), .int .u8 ((c.ip.b12.toNat : Int)), .int .u8 ((c.ip.b13.toNat : Int)), .int .u8 ((c.ip.b14.toNat : Int)), .int .u8 ((c.ip.b15.toNat : Int)), .int .i64 (c.port)]) (x_load (p := .pointer (some ⟨b1, 0, none⟩)) rfl (by kernel_rfl) (run_loadA (k := 18) (by kernel_rfl) (by kernel_rfl) (hO.blk (List.mem_cons_of_mem _ (List.mem_cons_of_mem _ (List.mem_cons_of_mem _ List.mem_cons_self)))) (by kernel_rfl) (by kernel_rfl))) ?_; clear hF; intro a hF
   refine Vr hF (.bool true) (x_bool (x := decide (c = c)) (decide_eq_true rfl) (x_eqPt (a := c) (b := c) rfl (by kernel_rfl) (by kernel_rfl))) ?_; clear hF; intro a hF
   refine Vp hF (.bool true) ?_; clear hF; intro a hF
   refine Vp hF (.bool true) ?_; clear hF; intro a hF
   refine L_nil ?_
   refine hK18 _ _ ?_
   refine wp_ret ?_
   refine ret1 hF (v := .bool true) rfl (resT (by kernel_rfl)) (by refine ⟨?_, hO.nil⟩; first | rfl | (exfalso; simp_all; done) | (simp; done)) .ret (.inl rfl)

theorem law04_PortsPoints (I : List Nat) (ea : Nat → Addr) (c : Pt) (s : ByteArray) (W : World) (hG : LibW W) (hE : Errs I ea W) (h3 : I.contains 3 = true) (hI : I = errIs) : Ret Tryz.prog 11 #[ptV c, .string s] W fun v W' => v = .bool true ∧ Own W noX [] W' := by
  cases hp : parsePt s with
  | none => exact law04_PortsPoints_n I ea c s W hG hE h3 hI hp
  | some x0 => exact law04_PortsPoints_s I ea c s x0 W hG hE h3 hI hp
end Go.Proofs.YthellfigmpjhlaaGreatDoor
