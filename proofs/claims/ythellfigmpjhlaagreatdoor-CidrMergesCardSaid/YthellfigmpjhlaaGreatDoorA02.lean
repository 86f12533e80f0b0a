import Derived.Test.YthellfigmpjhlaaGreatDoorFmtW
namespace Go.Proofs.YthellfigmpjhlaaGreatDoor
open Go Go.RowKit
set_option linter.unusedVariables false
set_option linter.unusedSimpArgs false
theorem own_noX {w0 W : World} {L : List Chunk} (h : Own w0 noD L W) : Own w0 noX L W := ⟨h.os, h.tape, h.output, h.size, h.old, fun e => Bool.noConfusion e, h.holds, h.alive, h.fresh, h.disj⟩

set_option maxRecDepth 20000 in
theorem law02_alive (I : List Nat) (ea : Nat → Addr) (W : World) (hG : LibW W) (hE : Errs I ea W) (h3 : I.contains 3 = true) : Ret Tryz.prog 22 #[] W fun v W' => v = .bool true ∧ Own W noX [] W' := by
 refine enter Tryz.func22 rfl (n := 24) rfl (by kernel_rfl) (E0 := []) (by kernel_rfl) ?_
 intro a hF; have hO := Own.start W noX
 refine wp_seq_k fun K1 hK1 => ?_
 refine wp_region_lit ?_
 refine Vp hF (.bool false) ?_; clear hF; intro a hF
 refine L_nil ?_
 refine hK1 _ _ ?_
 refine wp_seq_k fun K2 hK2 => ?_
 refine wp_region_lit ?_
 refine Lc hF ((addr_Parse I ea aliveT W (hG.own hO) (hE.own hO) h3 (by decide)).mono fun v W' h => (⟨by rw [h.1, aliveA_parse]; rfl, h.2⟩ : v = .tuple #[.agg #[.bool true, .int .u8 32, .int .u8 1, .int .u8 13, .int .u8 184, .int .u8 0, .int .u8 0, .int .u8 0, .int .u8 0, .int .u8 0, .int .u8 0, .int .u8 0, .int .u8 0, .int .u8 0, .int .u8 0, .int .u8 0, .int .u8 1], .nilIface] ∧ Own W noX [] W')) ?_
 clear hF; rintro _ W1 a ⟨rfl, hk⟩ hF
 replace hO := hO.call0 hk; clear hk
 refine Vp hF (.tuple #[.agg #[.bool true, .int .u8 32, .int .u8 1, .int .u8 13, .int .u8 184, .int .u8 0, .int .u8 0, .int .u8 0, .int .u8 0, .int .u8 0, .int .u8 0, .int .u8 0, .int .u8 0, .int .u8 0, .int .u8 0, .int .u8 0, .int .u8 1], .nilIface]) ?_; clear hF; intro a hF
 refine Vp hF (.agg #[.bool true, .int .u8 32, .int .u8 1, .int .u8 13, .int .u8 184, .int .u8 0, .int .u8 0, .int .u8 0, .int .u8 0, .int .u8 0, .int .u8 0, .int .u8 0, .int .u8 0, .int .u8 0, .int .u8 0, .int .u8 0, .int .u8 1]) ?_; clear hF; intro a hF
 refine Vp hF (.nilIface) ?_; clear hF; intro a hF
 refine L_new hF hO (by kernel_rfl) (by kernel_rfl) (vf := fun b => .pointer (some ⟨b, 0, none⟩)) (ob := .cells #[.bool false, .int .u8 0, .int .u8 0, .int .u8 0, .int .u8 0, .int .u8 0, .int .u8 0, .int .u8 0, .int .u8 0, .int .u8 0, .int .u8 0, .int .u8 0, .int .u8 0, .int .u8 0, .int .u8 0, .int .u8 0, .int .u8 0] 33) (by kernel_rfl) (by kernel_rfl) ?_
 clear hF hO; intro b1 W2 a hO hF
 obtain ⟨W3, hst, hO1⟩ := run_storeAt (P := Tryz.prog) (k := 17) (T := 33) (off := 0) (v := .agg #[.bool true, .int .u8 32, .int .u8 1, .int .u8 13, .int .u8 184, .int .u8 0, .int .u8 0, .int .u8 0, .int .u8 0, .int .u8 0, .int .u8 0, .int .u8 0, .int .u8 0, .int .u8 0, .int .u8 0, .int .u8 0, .int .u8 1]) (cs := #[.bool false, .int .u8 0, .int .u8 0, .int .u8 0, .int .u8 0, .int .u8 0, .int .u8 0, .int .u8 0, .int .u8 0, .int .u8 0, .int .u8 0, .int .u8 0, .int .u8 0, .int .u8 0, .int .u8 0, .int .u8 0, .int .u8 0]) (cs' := #[.bool true, .int .u8 32, .int .u8 1, .int .u8 13, .int .u8 184, .int .u8 0, .int .u8 0, .int .u8 0, .int .u8 0, .int .u8 0, .int .u8 0, .int .u8 0, .int .u8 0, .int .u8 0, .int .u8 0, .int .u8 0, .int .u8 1]) hO (by kernel_rfl) (by kernel_rfl) (by kernel_rfl) (Nat.le_of_ble_eq_true (by kernel_rfl)) (by kernel_rfl) (.head _)
 refine L_skip hF (by kernel_rfl) (by kernel_rfl) (x_store (p := .pointer (some ⟨b1, 0, none⟩)) (v := .agg #[.bool true, .int .u8 32, .int .u8 1, .int .u8 13, .int .u8 184, .int .u8 0, .int .u8 0, .int .u8 0, .int .u8 0, .int .u8 0, .int .u8 0, .int .u8 0, .int .u8 0, .int .u8 0, .int .u8 0, .int .u8 0, .int .u8 1]) rfl (by kernel_rfl) (by kernel_rfl) hst) (by kernel_rfl) ?_
 clear hst hF; intro a hF; replace hO := hO1; clear hO1
 refine Vp hF (.nilIface) ?_; clear hF; intro a hF
 refine L_nil ?_
 refine hK2 _ _ ?_
 refine wp_seq_k fun K3 hK3 => ?_
 refine wp_region_lit ?_
 refine Vp hF (.nilIface) ?_; clear hF; intro a hF
 refine Vp hF (.bool true) ?_; clear hF; intro a hF
 refine Vp hF (.bool true) ?_; clear hF; intro a hF
 refine Vp hF (.pointer (some ⟨b1, 0, none⟩)) ?_; clear hF; intro a hF
 refine Vr hF (.bool true) (x_load (p := .pointer (some ⟨b1, 0, none⟩)) rfl (by kernel_rfl) (run_load1 (by kernel_rfl) ((hO.cell List.mem_cons_self).trans (by kernel_rfl)))) ?_; clear hF; intro a hF
 refine Vp hF (.bool true) ?_; clear hF; intro a hF
 refine Vp hF (.bool true) ?_; clear hF; intro a hF
 refine Vp hF (.pointer (some ⟨b1, 1, none⟩)) ?_; clear hF; intro a hF
 refine Vr hF (.agg #[.int .u8 32, .int .u8 1, .int .u8 13, .int .u8 184, .int .u8 0, .int .u8 0, .int .u8 0, .int .u8 0, .int .u8 0, .int .u8 0, .int .u8 0, .int .u8 0, .int .u8 0, .int .u8 0, .int .u8 0, .int .u8 1]) (x_load (p := .pointer (some ⟨b1, 1, none⟩)) rfl (by kernel_rfl) (run_loadA (k := 16) (by kernel_rfl) (by kernel_rfl) (hO.blk List.mem_cons_self) (by kernel_rfl) (by kernel_rfl))) ?_; clear hF; intro a hF
 refine Vp hF (.agg #[.int .u8 32, .int .u8 1, .int .u8 13, .int .u8 184, .int .u8 0, .int .u8 0, .int .u8 0, .int .u8 0, .int .u8 0, .int .u8 0, .int .u8 0, .int .u8 0, .int .u8 0, .int .u8 0, .int .u8 0, .int .u8 1]) ?_; clear hF; intro a hF
 refine Vr hF (.bool true) (x_bool (x := octEq aliveA aliveA) (decide_eq_true rfl) (x_eqOct (a := aliveA) (b := aliveA) rfl (by kernel_rfl) (by kernel_rfl))) ?_; clear hF; intro a hF
 refine Vp hF (.bool true) ?_; clear hF; intro a hF
 refine Vp hF (.bool true) ?_; clear hF; intro a hF
 refine Vr hF (.agg #[.bool true, .int .u8 32, .int .u8 1, .int .u8 13, .int .u8 184, .int .u8 0, .int .u8 0, .int .u8 0, .int .u8 0, .int .u8 0, .int .u8 0, .int .u8 0, .int .u8 0, .int .u8 0, .int .u8 0, .int .u8 0, .int .u8 1]) (x_load (p := .pointer (some ⟨b1, 0, none⟩)) rfl (by kernel_rfl) (run_loadA (k := 17) (by kernel_rfl) (by kernel_rfl) (hO.blk List.mem_cons_self) (by kernel_rfl) (by kernel_rfl))) ?_; clear hF; intro a hF
 refine Lc hF ((addr_Format aliveA W3 (hG.own hO)).mono fun v W' h => (⟨by rw [h.1, aliveA_fmt]; rfl, h.2⟩ : v = .string (⟨#[50, 48, 48, 49, 58, 100, 98, 56, 58, 58, 49]⟩ : ByteArray) ∧ Own W3 noX [] W')) ?_
 clear hF; rintro _ W4 a ⟨rfl, hk⟩ hF
 replace hO := hO.call0 hk; clear hk
 refine Vr hF (.bool true) (x_bool (x := strEq (⟨#[50, 48, 48, 49, 58, 100, 98, 56, 58, 58, 49]⟩ : ByteArray) (⟨#[50, 48, 48, 49, 58, 100, 98, 56, 58, 58, 49]⟩ : ByteArray)) (strEq_refl _) (by kernel_rfl)) ?_; clear hF; intro a hF
 refine Vp hF (.bool true) ?_; clear hF; intro a hF
 refine Vp hF (.bool true) ?_; clear hF; intro a hF
 refine L_nil ?_
 refine hK3 _ _ ?_
 refine wp_ret ?_
 refine ret1 hF (v := .bool true) rfl (resT (by kernel_rfl)) (by refine ⟨?_, hO.nil⟩; first | rfl | (simp [*]; done)) .ret (.inl rfl)

set_option maxRecDepth 20000 in
theorem addr_size (x : Ip) (W : World) : Ret Tryz.prog 89 #[ipV x] W fun v W' => v = .int .i64 (if x.six then 16 else 4) ∧ Own W noX [] W' := by
 refine enter Tryz.func89 rfl (n := 5) rfl (by kernel_rfl) (E0 := [(0, ipV x)]) (by kernel_rfl) ?_
 intro a hF; have hO := Own.start W noX
 refine wp_seq_k fun K1 hK1 => ?_
 refine wp_region_lit ?_
 refine L_new hF hO (by kernel_rfl) (by kernel_rfl) (vf := fun b => .pointer (some ⟨b, 0, none⟩)) (ob := .cells #[.bool x.six, .int .u8 ((x.b0.toNat : Int)), .int .u8 ((x.b1.toNat : Int)), .int .u8 ((x.b2.toNat : Int)), .int .u8 ((x.b3.toNat : Int)), .int .u8 ((x.b4.toNat : Int)), .int .u8 ((x.b5.toNat : Int)), .int .u8 ((x.b6.toNat : Int)), .int .u8 ((x.b7.toNat : Int)), .int .u8 ((x.b8.toNat : Int)), .int .u8 ((x.b9.toNat : Int)), .int .u8 ((x.b10.toNat : Int)), .int .u8 ((x.b11.toNat : Int)), .int .u8 ((x.b12.toNat : Int)), .int .u8 ((x.b13.toNat : Int)), .int .u8 ((x.b14.toNat : Int)), .int .u8 ((x.b15.toNat : Int))] 33) (by kernel_rfl) (by kernel_rfl) ?_
 clear hF hO; intro b1 W1 a hO hF
 replace hO := hO.reblk (cs := #[.bool x.six, .int .u8 ((x.b0.toNat : Int)), .int .u8 ((x.b1.toNat : Int)), .int .u8 ((x.b2.toNat : Int)), .int .u8 ((x.b3.toNat : Int)), .int .u8 ((x.b4.toNat : Int)), .int .u8 ((x.b5.toNat : Int)), .int .u8 ((x.b6.toNat : Int)), .int .u8 ((x.b7.toNat : Int)), .int .u8 ((x.b8.toNat : Int)), .int .u8 ((x.b9.toNat : Int)), .int .u8 ((x.b10.toNat : Int)), .int .u8 ((x.b11.toNat : Int)), .int .u8 ((x.b12.toNat : Int)), .int .u8 ((x.b13.toNat : Int)), .int .u8 ((x.b14.toNat : Int)), .int .u8 ((x.b15.toNat : Int))]) (cs' := (ipL x).toArray) (by kernel_rfl) (.head _)
 refine Vp hF (.int .i64 0) ?_; clear hF; intro a hF
 refine L_nil ?_
 refine hK1 _ _ ?_
 refine wp_seq_k fun K2 hK2 => ?_
 refine wp_seq_k fun K3 hK3 => ?_
 refine wp_region_lit ?_
 refine Vp hF (.pointer (some ⟨b1, 0, none⟩)) ?_; clear hF; intro a hF
 refine Vr hF (.bool x.six) (x_load (p := .pointer (some ⟨b1, 0, none⟩)) rfl (by kernel_rfl) (run_load1 (by kernel_rfl) ((hO.cell List.mem_cons_self).trans (by kernel_rfl)))) ?_; clear hF; intro a hF
 refine L_nil ?_
 refine hK3 _ _ ?_
 cases q1 : (x.six : Bool)
 ·
  replace hF := hF.know (d := 4) (v' := .bool false) (by kernel_rfl) (congrArg Value.bool q1)
  refine cond_f hF (by kernel_rfl) (by kernel_rfl) ?_
  refine wp_skip ?_
  refine hK2 _ _ ?_
  refine wp_seq_k fun K4 hK4 => ?_
  refine wp_region_lit ?_
  refine Vp hF (.int .i64 4) ?_; clear hF; intro a hF
  refine L_nil ?_
  refine hK4 _ _ ?_
  refine wp_ret ?_
  refine ret1 hF (v := .int .i64 4) rfl (resT (by kernel_rfl)) (by refine ⟨?_, hO.nil⟩; first | rfl | (simp [*]; done)) .ret (.inl rfl)
 ·
  replace hF := hF.know (d := 4) (v' := .bool true) (by kernel_rfl) (congrArg Value.bool q1)
  refine cond_t hF (by kernel_rfl) (by kernel_rfl) ?_
  refine wp_seq_k fun K5 hK5 => ?_
  refine wp_region_lit ?_
  refine Vp hF (.int .i64 16) ?_; clear hF; intro a hF
  refine L_nil ?_
  refine hK5 _ _ ?_
  refine wp_ret ?_
  refine then_ret ?_
  refine ret1 hF (v := .int .i64 16) rfl (resT (by kernel_rfl)) (by refine ⟨?_, hO.nil⟩; first | rfl | (simp [*]; done)) .ret (.inl rfl)

set_option maxRecDepth 20000 in
theorem addr_Bits6 (x : Ip) (W : World) (h6 : x.six = true) : Ret Tryz.prog 28 #[ipV x] W fun v W' => v = .int .i64 128 ∧ Own W noX [] W' := by
 refine enter Tryz.func28 rfl (n := 6) rfl (by kernel_rfl) (E0 := [(0, ipV x)]) (by kernel_rfl) ?_
 intro a hF; have hO := Own.start W noX
 refine wp_seq_k fun K1 hK1 => ?_
 refine wp_region_lit ?_
 refine L_new hF hO (by kernel_rfl) (by kernel_rfl) (vf := fun b => .pointer (some ⟨b, 0, none⟩)) (ob := .cells #[.bool x.six, .int .u8 ((x.b0.toNat : Int)), .int .u8 ((x.b1.toNat : Int)), .int .u8 ((x.b2.toNat : Int)), .int .u8 ((x.b3.toNat : Int)), .int .u8 ((x.b4.toNat : Int)), .int .u8 ((x.b5.toNat : Int)), .int .u8 ((x.b6.toNat : Int)), .int .u8 ((x.b7.toNat : Int)), .int .u8 ((x.b8.toNat : Int)), .int .u8 ((x.b9.toNat : Int)), .int .u8 ((x.b10.toNat : Int)), .int .u8 ((x.b11.toNat : Int)), .int .u8 ((x.b12.toNat : Int)), .int .u8 ((x.b13.toNat : Int)), .int .u8 ((x.b14.toNat : Int)), .int .u8 ((x.b15.toNat : Int))] 33) (by kernel_rfl) (by kernel_rfl) ?_
 clear hF hO; intro b1 W1 a hO hF
 replace hO := hO.reblk (cs := #[.bool x.six, .int .u8 ((x.b0.toNat : Int)), .int .u8 ((x.b1.toNat : Int)), .int .u8 ((x.b2.toNat : Int)), .int .u8 ((x.b3.toNat : Int)), .int .u8 ((x.b4.toNat : Int)), .int .u8 ((x.b5.toNat : Int)), .int .u8 ((x.b6.toNat : Int)), .int .u8 ((x.b7.toNat : Int)), .int .u8 ((x.b8.toNat : Int)), .int .u8 ((x.b9.toNat : Int)), .int .u8 ((x.b10.toNat : Int)), .int .u8 ((x.b11.toNat : Int)), .int .u8 ((x.b12.toNat : Int)), .int .u8 ((x.b13.toNat : Int)), .int .u8 ((x.b14.toNat : Int)), .int .u8 ((x.b15.toNat : Int))]) (cs' := (ipL x).toArray) (by kernel_rfl) (.head _)
 refine Vp hF (.int .i64 0) ?_; clear hF; intro a hF
 refine L_nil ?_
 refine hK1 _ _ ?_
 refine wp_seq_k fun K2 hK2 => ?_
 refine wp_region_lit ?_
 refine Vr hF (ipV x) (x_load (p := .pointer (some ⟨b1, 0, none⟩)) rfl (by kernel_rfl) (run_loadA (k := 17) (by kernel_rfl) (by kernel_rfl) (hO.blk List.mem_cons_self) (by kernel_rfl) (by kernel_rfl))) ?_; clear hF; intro a hF
 refine Lc hF ((addr_size x W1).mono fun v W' h => (⟨by rw [h.1, h6]; rfl, h.2⟩ : v = .int .i64 16 ∧ Own W1 noX [] W')) ?_
 clear hF; rintro _ W2 a ⟨rfl, hk⟩ hF
 replace hO := hO.call0 hk; clear hk
 refine Vp hF (.int .i64 128) ?_; clear hF; intro a hF
 refine Vp hF (.int .i64 128) ?_; clear hF; intro a hF
 refine L_nil ?_
 refine hK2 _ _ ?_
 refine wp_ret ?_
 refine ret1 hF (v := .int .i64 128) rfl (resT (by kernel_rfl)) (by refine ⟨?_, hO.nil⟩; first | rfl | (simp [*]; done)) .ret (.inl rfl)

set_option maxRecDepth 20000 in
theorem addr_Bits4 (x : Ip) (W : World) (h6 : x.six = false) : Ret Tryz.prog 28 #[ipV x] W fun v W' => v = .int .i64 32 ∧ Own W noX [] W' := by
 refine enter Tryz.func28 rfl (n := 6) rfl (by kernel_rfl) (E0 := [(0, ipV x)]) (by kernel_rfl) ?_
 intro a hF; have hO := Own.start W noX
 refine wp_seq_k fun K1 hK1 => ?_
 refine wp_region_lit ?_
 refine L_new hF hO (by kernel_rfl) (by kernel_rfl) (vf := fun b => .pointer (some ⟨b, 0, none⟩)) (ob := .cells #[.bool x.six, .int .u8 ((x.b0.toNat : Int)), .int .u8 ((x.b1.toNat : Int)), .int .u8 ((x.b2.toNat : Int)), .int .u8 ((x.b3.toNat : Int)), .int .u8 ((x.b4.toNat : Int)), .int .u8 ((x.b5.toNat : Int)), .int .u8 ((x.b6.toNat : Int)), .int .u8 ((x.b7.toNat : Int)), .int .u8 ((x.b8.toNat : Int)), .int .u8 ((x.b9.toNat : Int)), .int .u8 ((x.b10.toNat : Int)), .int .u8 ((x.b11.toNat : Int)), .int .u8 ((x.b12.toNat : Int)), .int .u8 ((x.b13.toNat : Int)), .int .u8 ((x.b14.toNat : Int)), .int .u8 ((x.b15.toNat : Int))] 33) (by kernel_rfl) (by kernel_rfl) ?_
 clear hF hO; intro b1 W1 a hO hF
 replace hO := hO.reblk (cs := #[.bool x.six, .int .u8 ((x.b0.toNat : Int)), .int .u8 ((x.b1.toNat : Int)), .int .u8 ((x.b2.toNat : Int)), .int .u8 ((x.b3.toNat : Int)), .int .u8 ((x.b4.toNat : Int)), .int .u8 ((x.b5.toNat : Int)), .int .u8 ((x.b6.toNat : Int)), .int .u8 ((x.b7.toNat : Int)), .int .u8 ((x.b8.toNat : Int)), .int .u8 ((x.b9.toNat : Int)), .int .u8 ((x.b10.toNat : Int)), .int .u8 ((x.b11.toNat : Int)), .int .u8 ((x.b12.toNat : Int)), .int .u8 ((x.b13.toNat : Int)), .int .u8 ((x.b14.toNat : Int)), .int .u8 ((x.b15.toNat : Int))]) (cs' := (ipL x).toArray) (by kernel_rfl) (.head _)
 refine Vp hF (.int .i64 0) ?_; clear hF; intro a hF
 refine L_nil ?_
 refine hK1 _ _ ?_
 refine wp_seq_k fun K2 hK2 => ?_
 refine wp_region_lit ?_
 refine Vr hF (ipV x) (x_load (p := .pointer (some ⟨b1, 0, none⟩)) rfl (by kernel_rfl) (run_loadA (k := 17) (by kernel_rfl) (by kernel_rfl) (hO.blk List.mem_cons_self) (by kernel_rfl) (by kernel_rfl))) ?_; clear hF; intro a hF
 refine Lc hF ((addr_size x W1).mono fun v W' h => (⟨by rw [h.1, h6]; rfl, h.2⟩ : v = .int .i64 4 ∧ Own W1 noX [] W')) ?_
 clear hF; rintro _ W2 a ⟨rfl, hk⟩ hF
 replace hO := hO.call0 hk; clear hk
 refine Vp hF (.int .i64 32) ?_; clear hF; intro a hF
 refine Vp hF (.int .i64 32) ?_; clear hF; intro a hF
 refine L_nil ?_
 refine hK2 _ _ ?_
 refine wp_ret ?_
 refine ret1 hF (v := .int .i64 32) rfl (resT (by kernel_rfl)) (by refine ⟨?_, hO.nil⟩; first | rfl | (simp [*]; done)) .ret (.inl rfl)

end Go.Proofs.YthellfigmpjhlaaGreatDoor
