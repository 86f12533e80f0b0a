import Derived.Test.YthellfigmpjhlaaGreatDoorFmtW
namespace Go.Proofs.YthellfigmpjhlaaGreatDoor
open Go Go.RowKit
set_option linter.unusedVariables false
set_option linter.unusedSimpArgs false
theorem own_noX {w0 W : World} {L : List Chunk} (h : Own w0 noD L W) : Own w0 noX L W := ⟨h.os, h.tape, h.output, h.size, h.old, fun e => Bool.noConfusion e, h.holds, h.alive, h.fresh, h.disj⟩

set_option maxRecDepth 20000 in
theorem law02_alive (I : List Nat) (ea : Nat → Addr) (W : World) (hG : LibW W) (hE : Errs I ea W) (h3 : I.contains 3 = true) : Ret Tryz.prog 22 #[] W fun v W' => v = .bool true ∧ Own W noX [] W' := by
  refine enter Tryz.func22 rfl (n := 24) rfl (by kernel_rfl) (E0 := []) (by kernel_rfl) ?_
  intro a hF; have hO := Own.start W noX
  refine wp_seq_k fun K1 hK1 => ?_
  refine wp_region_lit ?_
  refine Vp hF (.bool false) ?_; clear hF; intro a hF
  refine L_nil ?_
  refine hK1 _ _ ?_
  refine wp_seq_k fun K2 hK2 => ?_
  refine wp_region_lit ?_
  refine Lc hF ((addr_Parse I ea aliveT W (hG.own hO) (hE.own hO) h3 (by decide) (aliveA_fmt ▸ asc_fmt aliveA)).mono fun v W' h => (⟨by rw [h.1, aliveA_parse]; rfl, h.2⟩ : v = .tuple #[.agg #[.bool true, .int .u8 32, .int .u8 1, .int .u8 13, .int .u8 184, .int .u8 0, .int .u8 0, .int .u8 0, .int .u8 0, .int .u8 0, .int .u8 0, .int .u8 0, .int .u8 0, .int .u8 0, .int .u8 0, .int .u8 0, .int .u8 1], .nilIface] ∧ Own W noX [] W')) ?_
  clear hF; rintro _ W1 a ⟨rfl, hk⟩ hF
  replace hO := hO.call0 hk; clear hk
  refine Vp hF (.tuple #[.agg #[.bool true, .int .u8 32, .int .u8 1, .int .u8 13, .int .u8 184, .int .u8 0, .int .u8 0, .int .u8 0, .int .u8 0, .int .u8 0, .int .u8 0, .int .u8 0, .int .u8 0, .int .u8 0, .int .u8 0, .int .u8 0, .int .u8 1], .nilIface]) ?_; clear hF; intro a hF
  refine Vp hF (.agg #[.bool true, .int .u8 32, .int .u8 1, .int .u8 13, .int .u8 184, .int .u8 0, .int .u8 0, .int .u8 0, .int .u8 0, .int .u8 0, .int .u8 0, .int .u8 0, .int .u8 0, .int .u8 0, .int .u8 0, .int .u8 0, .int .u8 1]) ?_; clear hF; intro a hF
  refine Vp hF (.nilIface) ?_; clear hF; intro a hF
  refine L_new hF hO (by kernel_rfl) (by kernel_rfl) (vf := fun b => .pointer (some ⟨b, 0, none⟩)) (ob := .cells #[.bool false, .int .u8 0, .int .u8 0, .int .u8 0, .int .u8 0, .int .u8 0, .int .u8 0, .int .u8 0, .int .u8 0, .int .u8 0, .int .u8 0, .int .u8 0, .int .u8 0, .int .u8 0, .int .u8 0, .int .u8 0, .int .u8 0] 33) (by kernel_rfl) (by kernel_rfl) ?_
  clear hF hO; intro b1 W2 a hO hF
  obtain ⟨W3, hst, hO1⟩ := run_storeAt (P := Tryz.prog) (k := 17) (T := 33) (off := 0) (v := .agg #[.bool true, .int .u8 32, .int .u8 1, .int .u8 13, .int .u8 184, .int .u8 0, .int .u8 0, .int .u8 0, .int .u8 0, .int .u8 0, .int .u8 0, .int .u8 0, .int .u8 0, .int .u8 0, .int .u8 0, .int .u8 0, .int .u8 1]) (cs := #[.bool false, .int .u8 0, .int .u8 0, .int .u8 0, .int .u8 0, .int .u8 0, .int .u8 0, .int .u8 0, .int .u8 0, .int .u8 0, .int .u8 0, .int .u8 0, .int .u8 0, .int .u8 0, .int .u8 0, .int .u8 0, .int .u8 0]) (cs' := #[.bool true, .int .u8 32, .int .u8 1, .int .u8 13, .int .u8 184, .int .u8 0, .int .u8 0, .int .u8 0, .int .u8 0, .int .u8 0, .int .u8 0, .int .u8 0, .int .u8 0, .int .u8 0, .int .u8 0, .int .u8 0, .int .u8 1]) hO (by kernel_rfl) (by kernel_rfl) (by kernel_rfl) (Nat.le_of_ble_eq_true (by kernel_rfl)) (by kernel_rfl) (.head _)
  refine L_skip hF (by kernel_rfl) (by kernel_rfl) (x_store (p := .pointer (some ⟨b1, 0, none⟩)) (v := .agg #[.bool true, .int .u8 32, .int .u8 1, .int .u8 13, .int .u8 184, .int .u8 0, .int .u8 0, .int .u8 0, .int .u8 0, .int .u8 0, .int .u8 0, .int .u8 0, .int .u8 0, .int .u8 0, .int .u8 0, .int .u8 0, .int .u8 1]) rfl (by kernel_rfl) (by kernel_rfl) hst) (by kernel_rfl) ?_
  clear hst hF; intro a hF; replace hO := hO1; clear hO1
  refine Vp hF (.nilIface) ?_; clear hF; intro a hF
  refine L_nil ?_
  refine hK2 _ _ ?_
  refine wp_seq_k fun K3 hK3 => ?_
  refine wp_region_lit ?_
  refine Vp hF (.nilIface) ?_; clear hF; intro a hF
  refine Vp hF (.bool true) ?_; clear hF; intro a hF
  refine Vp hF (.bool true) ?_; clear hF; intro a hF
  refine Vp hF (.pointer (some ⟨b1, 0, none⟩)) ?_; clear hF; intro a hF
  refine Vr hF (.bool true) (x_load (p := .pointer (some ⟨b1, 0, none⟩)) rfl (by kernel_rfl) (run_load1 (by kernel_rfl) ((hO.cell List.mem_cons_self).trans (by kernel_rfl)))) ?_; clear hF; intro a hF
  refine Vp hF (.bool true) ?_; clear hF; intro a hF
  refine Vp hF (.bool true) ?_; clear hF; intro a hF
  refine Vp hF (.pointer (some ⟨b1, 1, none⟩)) ?_; clear hF; intro a hF
  refine Vr hF (.agg #[.int .u8 32, .int .u8 1, .int .u8 13, .int .u8 184, .int .u8 0, .int .u8 0, .int .u8 0, .int .u8 0, .int .u8 0, .int .u8 0, .int .u8 0, .int .u8 0, .int .u8 0, .int .u8 0, .int .u8 0, .int .u8 1]) (x_load (p := .pointer (some ⟨b1, 1, none⟩)) rfl (by kernel_rfl) (run_loadA (k := 16) (by kernel_rfl) (by kernel_rfl) (hO.blk List.mem_cons_self) (by kernel_rfl) (by kernel_rfl))) ?_; clear hF; intro a hF
  refine Vp hF (.agg #[.int .u8 32, .int .u8 1, .int .u8 13, .int .u8 184, .int .u8 0, .int .u8 0, .int .u8 0, .int .u8 0, .int .u8 0, .int .u8 0, .int .u8 0, .int .u8 0, .int .u8 0, .int .u8 0, .int .u8 0, .int .u8 1]) ?_; clear hF; intro a hF
  refine Vr hF (.bool true) (x_bool (x := octEq aliveA aliveA) (decide_eq_true rfl) (x_eqOct (a := aliveA) (b := aliveA) rfl (by kernel_rfl) (by kernel_rfl))) ?_; clear hF; intro a hF
  refine Vp hF (.bool true) ?_; clear hF; intro a hF
  refine Vp hF (.bool true) ?_; clear hF; intro a hF
  refine Vr hF (.agg #[.bool true, .int .u8 32, .int .u8 1, .int .u8 13, .int .u8 184, .int .u8 0, .int .u8 0, .int .u8 0, .int .u8 0, .int .u8 0, .int .u8 0, .int .u8 0, .int .u8 0, .int .u8 0, .int .u8 0, .int .u8 0, .int .u8 1]) (x_load (p := .pointer (some ⟨b1, 0, none⟩)) rfl (by kernel_rfl) (run_loadA (k := 17) (by kernel_rfl) (by kernel_rfl) (hO.blk List.mem_cons_self) (by kernel_rfl) (by kernel_rfl))) ?_; clear hF; intro a hF
  refine Lc hF ((addr_Format aliveA W3 (hG.own hO)).mono fun v W' h => (⟨by rw [h.1, aliveA_fmt]; rfl, h.2⟩ : v = .string (⟨#[50, 48, 48, 49, 58, 100, 98, 56, 58, 58, 49]⟩ : ByteArray) ∧ Own W3 noX [] W')) ?_
  clear hF; rintro _ W4 a ⟨rfl, hk⟩ hF
  replace hO := hO.call0 hk; clear hk
  refine Vr hF (.bool true) (x_bool (x := strEq (⟨#[50, 48, 48, 49, 58, 100, 98, 56, 58, 58, 49]⟩ : ByteArray) (⟨#[50, 48, 48, 49, 58, 100, 98, 56, 58, 58, 49]⟩ : ByteArray)) (strEq_refl _) (by kernel_rfl)) ?_; clear hF; intro a hF
  refine Vp hF (.bool true) ?_; clear hF; intro a hF
  refine Vp hF (.bool true) ?_; clear hF; intro a hF
  refine L_nil ?_
  refine hK3 _ _ ?_
  refine wp_ret ?_
  -- way 1: 
  refine ret1 hF (v := .bool true) rfl (resT (by kernel_rfl)) (by refine ⟨?_, hO.nil⟩; first | rfl | (simp [*]; done)) .ret (.inl rfl)

set_option maxRecDepth 20000 in
theorem addr_size (x : Ip) (W : World) : Ret Tryz.prog 89 #[ipV x] W fun v W' => v = .int .i64 (if x.six then 16 else 4) ∧ Own W noX [] W' := by
  refine enter Tryz.func89 rfl (n := 5) rfl (by kernel_rfl) (E0 := [(0, ipV x)]) (by kernel_rfl) ?_
  intro a hF; have hO := Own.start W noX
  refine wp_seq_k fun K1 hK1 => ?_
  refine wp_region_lit ?_
  refine L_new hF hO (by kernel_rfl) (by kernel_rfl) (vf := fun b => .pointer (some ⟨b, 0, none⟩)) (ob := .cells #[.bool x.six, .int .u8 ((x.b0.toNat : Int)), .int .u8 ((x.b1.toNat : Int)), .int .u8 ((x.b2.toNat : Int)), .int .u8 ((x.b3.toNat : Int)), .int .u8 ((x.b4.toNat : Int)), .int .u8 ((x.b5.toNat : Int)), .int .u8 ((x.b6.toNat : Int)), .int .u8 ((x.b7.toNat : Int)), .int .u8 ((x.b8.toNat : Int)), .int .u8 ((x.b9.toNat : Int)), .int .u8 ((x.b10.toNat : Int)), .int .u8 ((x.b11.toNat : Int)), .int .u8 ((x.b12.toNat : Int)), .int .u8 ((x.b13.toNat : Int)), .int .u8 ((x.b14.toNat : Int)), .int .u8 ((x.b15.toNat : Int))] 33) (by kernel_rfl) (by kernel_rfl) ?_
  clear hF hO; intro b1 W1 a hO hF
  replace hO := hO.reblk (cs := #[.bool x.six, .int .u8 ((x.b0.toNat : Int)), .int .u8 ((x.b1.toNat : Int)), .int .u8 ((x.b2.toNat : Int)), .int .u8 ((x.b3.toNat : Int)), .int .u8 ((x.b4.toNat : Int)), .int .u8 ((x.b5.toNat : Int)), .int .u8 ((x.b6.toNat : Int)), .int .u8 ((x.b7.toNat : Int)), .int .u8 ((x.b8.toNat : Int)), .int .u8 ((x.b9.toNat : Int)), .int .u8 ((x.b10.toNat : Int)), .int .u8 ((x.b11.toNat : Int)), .int .u8 ((x.b12.toNat : Int)), .int .u8 ((x.b13.toNat : Int)), .int .u8 ((x.b14.toNat : Int)), .int .u8 ((x.b15.toNat : Int))]) (cs' := (ipL x).toArray) (by kernel_rfl) (.head _)
  refine Vp hF (.int .i64 0) ?_; clear hF; intro a hF
  refine L_nil ?_
  refine hK1 _ _ ?_
  refine wp_seq_k fun K2 hK2 => ?_
  refine wp_seq_k fun K3 hK3 => ?_
  refine wp_region_lit ?_
  refine Vp hF (.pointer (some ⟨b1, 0, none⟩)) ?_; clear hF; intro a hF
  refine Vr hF (.bool x.six) (x_load (p := .pointer (some ⟨b1, 0, none⟩)) rfl (by kernel_rfl) (run_load1 (by kernel_rfl) ((hO.cell List.mem_cons_self).trans (by kernel_rfl)))) ?_; clear hF; intro a hF
  refine L_nil ?_
  refine hK3 _ _ ?_
  cases q1 : (x.six : Bool)
  ·
    replace hF := hF.know (d := 4) (v' := .bool false) (by kernel_rfl) (congrArg Value.bool q1)
    refine cond_f hF (by kernel_rfl) (by kernel_rfl) ?_
    refine wp_skip ?_
    refine hK2 _ _ ?_
    refine wp_seq_k fun K4 hK4 => ?_
    refine wp_region_lit ?_
    refine Vp hF (.int .i64 4) ?_; clear hF; intro a hF
    refine L_nil ?_
    refine hK4 _ _ ?_
    refine wp_ret ?_
    -- way 1: ¬ x.six
    refine ret1 hF (v := .int .i64 4) rfl (resT (by kernel_rfl)) (by refine ⟨?_, hO.nil⟩; first | rfl | (simp [*]; done)) .ret (.inl rfl)
  ·
    replace hF := hF.know (d := 4) (v' := .bool true) (by kernel_rfl) (congrArg Value.bool q1)
    refine cond_t hF (by kernel_rfl) (by kernel_rfl) ?_
    refine wp_seq_k fun K5 hK5 => ?_
    refine wp_region_lit ?_
    refine Vp hF (.int .i64 16) ?_; clear hF; intro a hF
    refine L_nil ?_
    refine hK5 _ _ ?_
    refine wp_ret ?_
    refine then_ret ?_
    -- way 2: x.six
    refine ret1 hF (v := .int .i64 16) rfl (resT (by kernel_rfl)) (by refine ⟨?_, hO.nil⟩; first | rfl | (simp [*]; done)) .ret (.inl rfl)

set_option maxRecDepth 20000 in
theorem addr_Bits6 (x : Ip) (W : World) (h6 : x.six = true) : Ret Tryz.prog 28 #[ipV x] W fun v W' => v = .int .i64 128 ∧ Own W noX [] W' := by
  refine enter Tryz.func28 rfl (n := 6) rfl (by kernel_rfl) (E0 := [(0, ipV x)]) (by kernel_rfl) ?_
  intro a hF; have hO := Own.start W noX
  refine wp_seq_k fun K1 hK1 => ?_
  refine wp_region_lit ?_
  refine L_new hF hO (by kernel_rfl) (by kernel_rfl) (vf := fun b => .pointer (some ⟨b, 0, none⟩)) (ob := .cells #[.bool x.six, .int .u8 ((x.b0.toNat : Int)), .int .u8 ((x.b1.toNat : Int)), .int .u8 ((x.b2.toNat : Int)), .int .u8 ((x.b3.toNat : Int)), .int .u8 ((x.b4.toNat : Int)), .int .u8 ((x.b5.toNat : Int)), .int .u8 ((x.b6.toNat : Int)), .int .u8 ((x.b7.toNat : Int)), .int .u8 ((x.b8.toNat : Int)), .int .u8 ((x.b9.toNat : Int)), .int .u8 ((x.b10.toNat : Int)), .int .u8 ((x.b11.toNat : Int)), .int .u8 ((x.b12.toNat : Int)), .int .u8 ((x.b13.toNat : Int)), .int .u8 ((x.b14.toNat : Int)), .int .u8 ((x.b15.toNat : Int))] 33) (by kernel_rfl) (by kernel_rfl) ?_
  clear hF hO; intro b1 W1 a hO hF
  replace hO := hO.reblk (cs := #[.bool x.six, .int .u8 ((x.b0.toNat : Int)), .int .u8 ((x.b1.toNat : Int)), .int .u8 ((x.b2.toNat : Int)), .int .u8 ((x.b3.toNat : Int)), .int .u8 ((x.b4.toNat : Int)), .int .u8 ((x.b5.toNat : Int)), .int .u8 ((x.b6.toNat : Int)), .int .u8 ((x.b7.toNat : Int)), .int .u8 ((x.b8.toNat : Int)), .int .u8 ((x.b9.toNat : Int)), .int .u8 ((x.b10.toNat : Int)), .int .u8 ((x.b11.toNat : Int)), .int .u8 ((x.b12.toNat : Int)), .int .u8 ((x.b13.toNat : Int)), .int .u8 ((x.b14.toNat : Int)), .int .u8 ((x.b15.toNat : Int))]) (cs' := (ipL x).toArray) (by kernel_rfl) (.head _)
  refine Vp hF (.int .i64 0) ?_; clear hF; intro a hF
  refine L_nil ?_
  refine hK1 _ _ ?_
  refine wp_seq_k fun K2 hK2 => ?_
  refine wp_region_lit ?_
  refine Vr hF (.agg #[.bool x.six, .int .u8 ((x.b0.toNat : Int)), .int .u8 ((x.b1.toNat : Int)), .int .u8 ((x.b2.toNat : Int)), .int .u8 ((x.b3.toNat : Int)), .int .u8 ((x.b4.toNat : Int)), .int .u8 ((x.b5.toNat : Int)), .int .u8 ((x.b6.toNat : Int)), .int .u8 ((x.b7.toNat : Int)), .int .u8 ((x.b8.toNat : Int)), .int .u8 ((x.b9.toNat : Int)), .int .u8 ((x.b10.toNat : Int)), .int .u8 ((x.b11.toNat : Int)), .int .u8 ((x.b12.toNat : Int)), .int .u8 ((x.b13.toNat : Int)), .int .u8 ((x.b14.toNat : Int)), .int .u8 ((x.b15.toNat : Int))]) (x_load (p := .pointer (some ⟨b1, 0, none⟩)) rfl (by kernel_rfl) (run_loadA (k := 17) (by kernel_rfl) (by kernel_rfl) (hO.blk List.mem_cons_self) (by kernel_rfl) (by kernel_rfl))) ?_; clear hF; intro a hF
  refine Lc hF ((addr_size x W1).mono fun v W' h => (⟨by rw [h.1, h6]; rfl, h.2⟩ : v = .int .i64 16 ∧ Own W1 noX [] W')) ?_
  clear hF; rintro _ W2 a ⟨rfl, hk⟩ hF
  replace hO := hO.call0 hk; clear hk
  refine Vp hF (.int .i64 128) ?_; clear hF; intro a hF
  refine Vp hF (.int .i64 128) ?_; clear hF; intro a hF
  refine L_nil ?_
  refine hK2 _ _ ?_
  refine wp_ret ?_
  -- way 1: 
  refine ret1 hF (v := .int .i64 128) rfl (resT (by kernel_rfl)) (by refine ⟨?_, hO.nil⟩; first | rfl | (simp [*]; done)) .ret (.inl rfl)

set_option maxRecDepth 20000 in
theorem addr_Bits4 (x : Ip) (W : World) (h6 : x.six = false) : Ret Tryz.prog 28 #[ipV x] W fun v W' => v = .int .i64 32 ∧ Own W noX [] W' := by
  refine enter Tryz.func28 rfl (n := 6) rfl (by kernel_rfl) (E0 := [(0, ipV x)]) (by kernel_rfl) ?_
  intro a hF; have hO := Own.start W noX
  refine wp_seq_k fun K1 hK1 => ?_
  refine wp_region_lit ?_
  refine L_new hF hO (by kernel_rfl) (by kernel_rfl) (vf := fun b => .pointer (some ⟨b, 0, none⟩)) (ob := .cells #[.bool x.six, .int .u8 ((x.b0.toNat : Int)), .int .u8 ((x.b1.toNat : Int)), .int .u8 ((x.b2.toNat : Int)), .int .u8 ((x.b3.toNat : Int)), .int .u8 ((x.b4.toNat : Int)), .int .u8 ((x.b5.toNat : Int)), .int .u8 ((x.b6.toNat : Int)), .int .u8 ((x.b7.toNat : Int)), .int .u8 ((x.b8.toNat : Int)), .int .u8 ((x.b9.toNat : Int)), .int .u8 ((x.b10.toNat : Int)), .int .u8 ((x.b11.toNat : Int)), .int .u8 ((x.b12.toNat : Int)), .int .u8 ((x.b13.toNat : Int)), .int .u8 ((x.b14.toNat : Int)), .int .u8 ((x.b15.toNat : Int))] 33) (by kernel_rfl) (by kernel_rfl) ?_
  clear hF hO; intro b1 W1 a hO hF
  replace hO := hO.reblk (cs := #[.bool x.six, .int .u8 ((x.b0.toNat : Int)), .int .u8 ((x.b1.toNat : Int)), .int .u8 ((x.b2.toNat : Int)), .int .u8 ((x.b3.toNat : Int)), .int .u8 ((x.b4.toNat : Int)), .int .u8 ((x.b5.toNat : Int)), .int .u8 ((x.b6.toNat : Int)), .int .u8 ((x.b7.toNat : Int)), .int .u8 ((x.b8.toNat : Int)), .int .u8 ((x.b9.toNat : Int)), .int .u8 ((x.b10.toNat : Int)), .int .u8 ((x.b11.toNat : Int)), .int .u8 ((x.b12.toNat : Int)), .int .u8 ((x.b13.toNat : Int)), .int .u8 ((x.b14.toNat : Int)), .int .u8 ((x.b15.toNat : Int))]) (cs' := (ipL x).toArray) (by kernel_rfl) (.head _)
  refine Vp hF (.int .i64 0) ?_; clear hF; intro a hF
  refine L_nil ?_
  refine hK1 _ _ ?_
  refine wp_seq_k fun K2 hK2 => ?_
  refine wp_region_lit ?_
  refine Vr hF (.agg #[.bool x.six, .int .u8 ((x.b0.toNat : Int)), .int .u8 ((x.b1.toNat : Int)), .int .u8 ((x.b2.toNat : Int)), .int .u8 ((x.b3.toNat : Int)), .int .u8 ((x.b4.toNat : Int)), .int .u8 ((x.b5.toNat : Int)), .int .u8 ((x.b6.toNat : Int)), .int .u8 ((x.b7.toNat : Int)), .int .u8 ((x.b8.toNat : Int)), .int .u8 ((x.b9.toNat : Int)), .int .u8 ((x.b10.toNat : Int)), .int .u8 ((x.b11.toNat : Int)), .int .u8 ((x.b12.toNat : Int)), .int .u8 ((x.b13.toNat : Int)), .int .u8 ((x.b14.toNat : Int)), .int .u8 ((x.b15.toNat : Int))]) (x_load (p := .pointer (some ⟨b1, 0, none⟩)) rfl (by kernel_rfl) (run_loadA (k := 17) (by kernel_rfl) (by kernel_rfl) (hO.blk List.mem_cons_self) (by kernel_rfl) (by kernel_rfl))) ?_; clear hF; intro a hF
  refine Lc hF ((addr_size x W1).mono fun v W' h => (⟨by rw [h.1, h6]; rfl, h.2⟩ : v = .int .i64 4 ∧ Own W1 noX [] W')) ?_
  clear hF; rintro _ W2 a ⟨rfl, hk⟩ hF
  replace hO := hO.call0 hk; clear hk
  refine Vp hF (.int .i64 32) ?_; clear hF; intro a hF
  refine Vp hF (.int .i64 32) ?_; clear hF; intro a hF
  refine L_nil ?_
  refine hK2 _ _ ?_
  refine wp_ret ?_
  -- way 1: 
  refine ret1 hF (v := .int .i64 32) rfl (resT (by kernel_rfl)) (by refine ⟨?_, hO.nil⟩; first | rfl | (simp [*]; done)) .ret (.inl rfl)

set_option maxRecDepth 20000 in
theorem law02_AddrFormats (I : List Nat) (ea : Nat → Addr) (x : Ip) (W : World) (hG : LibW W) (hE : Errs I ea W) (h3 : I.contains 3 = true) : Ret Tryz.prog 4 #[ipV x] W fun v W' => v = .bool true ∧ Own W noX [] W' := by
  refine enter Tryz.func4 rfl (n := 45) rfl (by kernel_rfl) (E0 := [(0, ipV x)]) (by kernel_rfl) ?_
  intro a hF; have hO := Own.start W noX
  refine wp_seq_k fun K1 hK1 => ?_
  refine wp_region_lit ?_
  refine L_new hF hO (by kernel_rfl) (by kernel_rfl) (vf := fun b => .pointer (some ⟨b, 0, none⟩)) (ob := .cells #[.bool x.six, .int .u8 ((x.b0.toNat : Int)), .int .u8 ((x.b1.toNat : Int)), .int .u8 ((x.b2.toNat : Int)), .int .u8 ((x.b3.toNat : Int)), .int .u8 ((x.b4.toNat : Int)), .int .u8 ((x.b5.toNat : Int)), .int .u8 ((x.b6.toNat : Int)), .int .u8 ((x.b7.toNat : Int)), .int .u8 ((x.b8.toNat : Int)), .int .u8 ((x.b9.toNat : Int)), .int .u8 ((x.b10.toNat : Int)), .int .u8 ((x.b11.toNat : Int)), .int .u8 ((x.b12.toNat : Int)), .int .u8 ((x.b13.toNat : Int)), .int .u8 ((x.b14.toNat : Int)), .int .u8 ((x.b15.toNat : Int))] 33) (by kernel_rfl) (by kernel_rfl) ?_
  clear hF hO; intro b1 W1 a hO hF
  replace hO := hO.reblk (cs := #[.bool x.six, .int .u8 ((x.b0.toNat : Int)), .int .u8 ((x.b1.toNat : Int)), .int .u8 ((x.b2.toNat : Int)), .int .u8 ((x.b3.toNat : Int)), .int .u8 ((x.b4.toNat : Int)), .int .u8 ((x.b5.toNat : Int)), .int .u8 ((x.b6.toNat : Int)), .int .u8 ((x.b7.toNat : Int)), .int .u8 ((x.b8.toNat : Int)), .int .u8 ((x.b9.toNat : Int)), .int .u8 ((x.b10.toNat : Int)), .int .u8 ((x.b11.toNat : Int)), .int .u8 ((x.b12.toNat : Int)), .int .u8 ((x.b13.toNat : Int)), .int .u8 ((x.b14.toNat : Int)), .int .u8 ((x.b15.toNat : Int))]) (cs' := (ipL x).toArray) (by kernel_rfl) (.head _)
  refine Vp hF (.bool false) ?_; clear hF; intro a hF
  refine L_nil ?_
  refine hK1 _ _ ?_
  refine wp_seq_k fun K2 hK2 => ?_
  refine wp_seq_k fun K3 hK3 => ?_
  refine wp_region_lit ?_
  refine Lc hF (law02_alive I ea W1 (hG.own hO) (hE.own hO) h3) ?_
  clear hF; rintro _ W2 a ⟨rfl, hk⟩ hF
  replace hO := hO.call0 hk; clear hk
  refine Vp hF (.bool false) ?_; clear hF; intro a hF
  refine L_nil ?_
  refine hK3 _ _ ?_
  refine cond_f hF (by kernel_rfl) (by kernel_rfl) ?_
  refine wp_skip ?_
  refine hK2 _ _ ?_
  refine wp_seq_k fun K4 hK4 => ?_
  refine wp_region_lit ?_
  refine Vr hF (.agg #[.bool x.six, .int .u8 ((x.b0.toNat : Int)), .int .u8 ((x.b1.toNat : Int)), .int .u8 ((x.b2.toNat : Int)), .int .u8 ((x.b3.toNat : Int)), .int .u8 ((x.b4.toNat : Int)), .int .u8 ((x.b5.toNat : Int)), .int .u8 ((x.b6.toNat : Int)), .int .u8 ((x.b7.toNat : Int)), .int .u8 ((x.b8.toNat : Int)), .int .u8 ((x.b9.toNat : Int)), .int .u8 ((x.b10.toNat : Int)), .int .u8 ((x.b11.toNat : Int)), .int .u8 ((x.b12.toNat : Int)), .int .u8 ((x.b13.toNat : Int)), .int .u8 ((x.b14.toNat : Int)), .int .u8 ((x.b15.toNat : Int))]) (x_load (p := .pointer (some ⟨b1, 0, none⟩)) rfl (by kernel_rfl) (run_loadA (k := 17) (by kernel_rfl) (by kernel_rfl) (hO.blk List.mem_cons_self) (by kernel_rfl) (by kernel_rfl))) ?_; clear hF; intro a hF
  refine Lc hF (addr_Format x W2 (hG.own hO)) ?_
  clear hF; rintro _ W3 a ⟨rfl, hk⟩ hF
  replace hO := hO.call0 hk; clear hk
  refine Vp hF (.string (fmtS x)) ?_; clear hF; intro a hF
  refine L_nil ?_
  refine hK4 _ _ ?_
  refine wp_seq_k fun K5 hK5 => ?_
  refine wp_seq_k fun K6 hK6 => ?_
  refine A_start (fun Wx => Own W noX [.blk b1 (.cells (ipL x).toArray 33 (0, 0))] Wx) (by kernel_rfl) ?_
  replace hO := hO.drewN 1
  generalize hWd : ({ W3 with drawn := W3.drawn + 1 } : World) = W3_d at hO ⊢; clear hWd
  refine Tk 0 hF (.agg #[.bool x.six, .int .u8 ((x.b0.toNat : Int)), .int .u8 ((x.b1.toNat : Int)), .int .u8 ((x.b2.toNat : Int)), .int .u8 ((x.b3.toNat : Int)), .int .u8 ((x.b4.toNat : Int)), .int .u8 ((x.b5.toNat : Int)), .int .u8 ((x.b6.toNat : Int)), .int .u8 ((x.b7.toNat : Int)), .int .u8 ((x.b8.toNat : Int)), .int .u8 ((x.b9.toNat : Int)), .int .u8 ((x.b10.toNat : Int)), .int .u8 ((x.b11.toNat : Int)), .int .u8 ((x.b12.toNat : Int)), .int .u8 ((x.b13.toNat : Int)), .int .u8 ((x.b14.toNat : Int)), .int .u8 ((x.b15.toNat : Int))]) (fun Wx hO => x_load (p := .pointer (some ⟨b1, 0, none⟩)) rfl (by kernel_rfl) (run_loadA (k := 17) (by kernel_rfl) (by kernel_rfl) (hO.blk List.mem_cons_self) (by kernel_rfl) (by kernel_rfl))) (hO.sub (.cons_cons _ (List.nil_sublist _))) ?_; clear hF; intro a hF
  refine Tk 2 hF (.agg #[.bool x.six, .int .u8 ((x.b0.toNat : Int)), .int .u8 ((x.b1.toNat : Int)), .int .u8 ((x.b2.toNat : Int)), .int .u8 ((x.b3.toNat : Int)), .int .u8 ((x.b4.toNat : Int)), .int .u8 ((x.b5.toNat : Int)), .int .u8 ((x.b6.toNat : Int)), .int .u8 ((x.b7.toNat : Int)), .int .u8 ((x.b8.toNat : Int)), .int .u8 ((x.b9.toNat : Int)), .int .u8 ((x.b10.toNat : Int)), .int .u8 ((x.b11.toNat : Int)), .int .u8 ((x.b12.toNat : Int)), .int .u8 ((x.b13.toNat : Int)), .int .u8 ((x.b14.toNat : Int)), .int .u8 ((x.b15.toNat : Int))]) (fun Wx hO => x_load (p := .pointer (some ⟨b1, 0, none⟩)) rfl (by kernel_rfl) (run_loadA (k := 17) (by kernel_rfl) (by kernel_rfl) (hO.blk List.mem_cons_self) (by kernel_rfl) (by kernel_rfl))) (hO.sub (.cons_cons _ (List.nil_sublist _))) ?_; clear hF; intro a hF
  refine A_one (i := 1) (listed' := #[true, true, true, false, false, false, false, false, false, false, false]) (by kernel_rfl) rfl (by kernel_rfl) ?_
  refine OpK.lc hF (addr_Right x W3_d) ?_
  clear hF; rintro _ W4 a ⟨rfl, hk⟩ hF
  replace hO := hO.call0 hk; clear hk
  refine ⟨hO.sub (.cons_cons _ (List.nil_sublist _)), ?_⟩
  refine A_one (i := 3) (listed' := #[true, true, true, true, false, false, false, false, false, false, false]) (by kernel_rfl) rfl (by kernel_rfl) ?_
  refine OpK.lc hF (ref02_Right x W4) ?_
  clear hF; rintro _ W5 a ⟨rfl, hk⟩ hF
  replace hO := hO.call0 hk; clear hk
  refine ⟨hO.sub (.cons_cons _ (List.nil_sublist _)), ?_⟩
  refine Tk 4 hF (.bool false) (fun Wx _ => (x_bool (x := !((rightIp x) == (rightIp x))) (notF (beq_self_eq_true _)) (by kernel_rfl))) (hO.sub (.cons_cons _ (List.nil_sublist _))) ?_; clear hF; intro a hF
  refine Tk 5 hF (.bool false) (fun Wx _ => by kernel_rfl) (hO.sub (.cons_cons _ (List.nil_sublist _))) ?_; clear hF; intro a hF
  refine Tk 6 hF (.string (fmtS x)) (fun Wx _ => by kernel_rfl) (hO.sub (.cons_cons _ (List.nil_sublist _))) ?_; clear hF; intro a hF
  refine Tk 7 hF (.agg #[.bool x.six, .int .u8 ((x.b0.toNat : Int)), .int .u8 ((x.b1.toNat : Int)), .int .u8 ((x.b2.toNat : Int)), .int .u8 ((x.b3.toNat : Int)), .int .u8 ((x.b4.toNat : Int)), .int .u8 ((x.b5.toNat : Int)), .int .u8 ((x.b6.toNat : Int)), .int .u8 ((x.b7.toNat : Int)), .int .u8 ((x.b8.toNat : Int)), .int .u8 ((x.b9.toNat : Int)), .int .u8 ((x.b10.toNat : Int)), .int .u8 ((x.b11.toNat : Int)), .int .u8 ((x.b12.toNat : Int)), .int .u8 ((x.b13.toNat : Int)), .int .u8 ((x.b14.toNat : Int)), .int .u8 ((x.b15.toNat : Int))]) (fun Wx hO => x_load (p := .pointer (some ⟨b1, 0, none⟩)) rfl (by kernel_rfl) (run_loadA (k := 17) (by kernel_rfl) (by kernel_rfl) (hO.blk List.mem_cons_self) (by kernel_rfl) (by kernel_rfl))) (hO.sub (.cons_cons _ (List.nil_sublist _))) ?_; clear hF; intro a hF
  refine A_one (i := 8) (listed' := #[true, true, true, true, true, true, true, true, true, false, false]) (by kernel_rfl) rfl (by kernel_rfl) ?_
  refine OpK.lc hF (ref02_Format x W5) ?_
  clear hF; rintro _ W6 a ⟨rfl, hk⟩ hF
  replace hO := hO.call0 hk; clear hk
  refine ⟨hO.sub (.cons_cons _ (List.nil_sublist _)), ?_⟩
  refine Tk 9 hF (.bool false) (fun Wx _ => (x_bool (x := !(strEq (fmtS x) (fmtS x))) (notF (strEq_refl _)) (by kernel_rfl))) (hO.sub (.cons_cons _ (List.nil_sublist _))) ?_; clear hF; intro a hF
  refine Tk 10 hF (.bool false) (fun Wx _ => by kernel_rfl) (hO.sub (.cons_cons _ (List.nil_sublist _))) ?_; clear hF; intro a hF
  refine A_done (by kernel_rfl) ?_
  refine hK6 _ _ ?_
  refine cond_f hF (by kernel_rfl) (by kernel_rfl) ?_
  refine wp_skip ?_
  refine hK5 _ _ ?_
  refine wp_seq_k fun K7 hK7 => ?_
  refine wp_seq_k fun K8 hK8 => ?_
  refine wp_region_lit ?_
  refine Vr hF (.agg #[.bool x.six, .int .u8 ((x.b0.toNat : Int)), .int .u8 ((x.b1.toNat : Int)), .int .u8 ((x.b2.toNat : Int)), .int .u8 ((x.b3.toNat : Int)), .int .u8 ((x.b4.toNat : Int)), .int .u8 ((x.b5.toNat : Int)), .int .u8 ((x.b6.toNat : Int)), .int .u8 ((x.b7.toNat : Int)), .int .u8 ((x.b8.toNat : Int)), .int .u8 ((x.b9.toNat : Int)), .int .u8 ((x.b10.toNat : Int)), .int .u8 ((x.b11.toNat : Int)), .int .u8 ((x.b12.toNat : Int)), .int .u8 ((x.b13.toNat : Int)), .int .u8 ((x.b14.toNat : Int)), .int .u8 ((x.b15.toNat : Int))]) (x_load (p := .pointer (some ⟨b1, 0, none⟩)) rfl (by kernel_rfl) (run_loadA (k := 17) (by kernel_rfl) (by kernel_rfl) (hO.blk List.mem_cons_self) (by kernel_rfl) (by kernel_rfl))) ?_; clear hF; intro a hF
  refine Lc hF (ref02_Right x W6) ?_
  clear hF; rintro _ W7 a ⟨rfl, hk⟩ hF
  replace hO := hO.call0 hk; clear hk
  refine Vp hF (.bool (!(rightIp x))) ?_; clear hF; intro a hF
  refine L_nil ?_
  refine hK8 _ _ ?_
  cases q1 : (rightIp x : Bool)
  ·
    replace hF := hF.know (d := 24) (v' := .bool true) (by kernel_rfl) (congrArg Value.bool (notT q1))
    refine cond_t hF (by kernel_rfl) (by kernel_rfl) ?_
    refine wp_seq_k fun K9 hK9 => ?_
    refine wp_region_lit ?_
    refine Vp hF (.bool true) ?_; clear hF; intro a hF
    refine L_nil ?_
    refine hK9 _ _ ?_
    refine wp_ret ?_
    refine then_ret ?_
    -- way 1: ¬ rightIp x
    refine ret1 hF (v := .bool true) rfl (resT (by kernel_rfl)) (by refine ⟨?_, hO.nil⟩; first | rfl | (simp [*]; done)) .ret (.inl rfl)
  ·
    replace hF := hF.know (d := 24) (v' := .bool false) (by kernel_rfl) (congrArg Value.bool (notF q1))
    refine cond_f hF (by kernel_rfl) (by kernel_rfl) ?_
    refine wp_skip ?_
    refine hK7 _ _ ?_
    refine wp_seq_k fun K10 hK10 => ?_
    refine wp_region_lit ?_
    refine Vp hF (.string (fmtS x)) ?_; clear hF; intro a hF
    refine Lc hF ((addr_Parse I ea (fmtS x) W7 (hG.own hO) (hE.own hO) h3 (by have := fmtS_len x; omega) (asc_fmt x)).mono fun v W' h => (⟨by rw [h.1, parse_fmt x (by assumption)]; rfl, h.2⟩ : v = .tuple #[ipV x, .nilIface] ∧ Own W7 noX [] W')) ?_
    clear hF; rintro _ W8 a ⟨rfl, hk⟩ hF
    replace hO := hO.call0 hk; clear hk
    refine Vp hF (.tuple #[ipV x, .nilIface]) ?_; clear hF; intro a hF
    refine Vp hF (ipV x) ?_; clear hF; intro a hF
    refine Vp hF (.nilIface) ?_; clear hF; intro a hF
    refine L_new hF hO (by kernel_rfl) (by kernel_rfl) (vf := fun b => .pointer (some ⟨b, 0, none⟩)) (ob := .cells #[.bool false, .int .u8 0, .int .u8 0, .int .u8 0, .int .u8 0, .int .u8 0, .int .u8 0, .int .u8 0, .int .u8 0, .int .u8 0, .int .u8 0, .int .u8 0, .int .u8 0, .int .u8 0, .int .u8 0, .int .u8 0, .int .u8 0] 33) (by kernel_rfl) (by kernel_rfl) ?_
    clear hF hO; intro b2 W9 a hO hF
    obtain ⟨W10, hst, hO1⟩ := run_storeAt (P := Tryz.prog) (k := 17) (T := 33) (off := 0) (v := ipV x) (cs := #[.bool false, .int .u8 0, .int .u8 0, .int .u8 0, .int .u8 0, .int .u8 0, .int .u8 0, .int .u8 0, .int .u8 0, .int .u8 0, .int .u8 0, .int .u8 0, .int .u8 0, .int .u8 0, .int .u8 0, .int .u8 0, .int .u8 0]) (cs' := #[.bool x.six, .int .u8 ((x.b0.toNat : Int)), .int .u8 ((x.b1.toNat : Int)), .int .u8 ((x.b2.toNat : Int)), .int .u8 ((x.b3.toNat : Int)), .int .u8 ((x.b4.toNat : Int)), .int .u8 ((x.b5.toNat : Int)), .int .u8 ((x.b6.toNat : Int)), .int .u8 ((x.b7.toNat : Int)), .int .u8 ((x.b8.toNat : Int)), .int .u8 ((x.b9.toNat : Int)), .int .u8 ((x.b10.toNat : Int)), .int .u8 ((x.b11.toNat : Int)), .int .u8 ((x.b12.toNat : Int)), .int .u8 ((x.b13.toNat : Int)), .int .u8 ((x.b14.toNat : Int)), .int .u8 ((x.b15.toNat : Int))]) hO (by kernel_rfl) (by kernel_rfl) (by kernel_rfl) (Nat.le_of_ble_eq_true (by kernel_rfl)) (by kernel_rfl) (.head _)
    refine L_skip hF (by kernel_rfl) (by kernel_rfl) (x_store (p := .pointer (some ⟨b2, 0, none⟩)) (v := ipV x) rfl (by kernel_rfl) (by kernel_rfl) hst) (by kernel_rfl) ?_
    clear hst hF; intro a hF; replace hO := hO1; clear hO1
    refine Vp hF (.nilIface) ?_; clear hF; intro a hF
    refine L_nil ?_
    refine hK10 _ _ ?_
    refine wp_seq_k fun K11 hK11 => ?_
    refine wp_region_lit ?_
    refine Vp hF (.int .i64 32) ?_; clear hF; intro a hF
    refine L_nil ?_
    refine hK11 _ _ ?_
    refine wp_seq_k fun K12 hK12 => ?_
    refine wp_seq_k fun K13 hK13 => ?_
    refine wp_region_lit ?_
    refine Vp hF (.pointer (some ⟨b1, 0, none⟩)) ?_; clear hF; intro a hF
    refine Vr hF (.bool x.six) (x_load (p := .pointer (some ⟨b1, 0, none⟩)) rfl (by kernel_rfl) (run_load1 (by kernel_rfl) ((hO.cell (List.mem_cons_of_mem _ List.mem_cons_self)).trans (by kernel_rfl)))) ?_; clear hF; intro a hF
    refine L_nil ?_
    refine hK13 _ _ ?_
    cases q2 : (x.six : Bool)
    ·
      replace hF := hF.know (d := 31) (v' := .bool false) (by kernel_rfl) (congrArg Value.bool q2)
      refine cond_f hF (by kernel_rfl) (by kernel_rfl) ?_
      refine wp_skip ?_
      refine hK12 _ _ ?_
      refine wp_seq_k fun K14 hK14 => ?_
      refine wp_region_lit ?_
      refine Vp hF (.nilIface) ?_; clear hF; intro a hF
      refine Vp hF (.bool true) ?_; clear hF; intro a hF
      refine Vp hF (.bool true) ?_; clear hF; intro a hF
      refine Vr hF (.agg #[.bool x.six, .int .u8 ((x.b0.toNat : Int)), .int .u8 ((x.b1.toNat : Int)), .int .u8 ((x.b2.toNat : Int)), .int .u8 ((x.b3.toNat : Int)), .int .u8 ((x.b4.toNat : Int)), .int .u8 ((x.b5.toNat : Int)), .int .u8 ((x.b6.toNat : Int)), .int .u8 ((x.b7.toNat : Int)), .int .u8 ((x.b8.toNat : Int)), .int .u8 ((x.b9.toNat : Int)), .int .u8 ((x.b10.toNat : Int)), .int .u8 ((x.b11.toNat : Int)), .int .u8 ((x.b12.toNat : Int)), .int .u8 ((x.b13.toNat : Int)), .int .u8 ((x.b14.toNat : Int)), .int .u8 ((x.b15.toNat : Int))]) (x_load (p := .pointer (some ⟨b2, 0, none⟩)) rfl (by kernel_rfl) (run_loadA (k := 17) (by kernel_rfl) (by kernel_rfl) (hO.blk List.mem_cons_self) (by kernel_rfl) (by kernel_rfl))) ?_; clear hF; intro a hF
      refine Vr hF (.agg #[.bool x.six, .int .u8 ((x.b0.toNat : Int)), .int .u8 ((x.b1.toNat : Int)), .int .u8 ((x.b2.toNat : Int)), .int .u8 ((x.b3.toNat : Int)), .int .u8 ((x.b4.toNat : Int)), .int .u8 ((x.b5.toNat : Int)), .int .u8 ((x.b6.toNat : Int)), .int .u8 ((x.b7.toNat : Int)), .int .u8 ((x.b8.toNat : Int)), .int .u8 ((x.b9.toNat : Int)), .int .u8 ((x.b10.toNat : Int)), .int .u8 ((x.b11.toNat : Int)), .int .u8 ((x.b12.toNat : Int)), .int .u8 ((x.b13.toNat : Int)), .int .u8 ((x.b14.toNat : Int)), .int .u8 ((x.b15.toNat : Int))]) (x_load (p := .pointer (some ⟨b1, 0, none⟩)) rfl (by kernel_rfl) (run_loadA (k := 17) (by kernel_rfl) (by kernel_rfl) (hO.blk (List.mem_cons_of_mem _ List.mem_cons_self)) (by kernel_rfl) (by kernel_rfl))) ?_; clear hF; intro a hF
      refine Vr hF (.bool true) (x_bool (x := decide (x = x)) (decide_eq_true rfl) (x_eqIp (a := x) (b := x) rfl (by kernel_rfl) (by kernel_rfl))) ?_; clear hF; intro a hF
      refine Vp hF (.bool true) ?_; clear hF; intro a hF
      refine Vp hF (.bool true) ?_; clear hF; intro a hF
      refine Vr hF (.agg #[.bool x.six, .int .u8 ((x.b0.toNat : Int)), .int .u8 ((x.b1.toNat : Int)), .int .u8 ((x.b2.toNat : Int)), .int .u8 ((x.b3.toNat : Int)), .int .u8 ((x.b4.toNat : Int)), .int .u8 ((x.b5.toNat : Int)), .int .u8 ((x.b6.toNat : Int)), .int .u8 ((x.b7.toNat : Int)), .int .u8 ((x.b8.toNat : Int)), .int .u8 ((x.b9.toNat : Int)), .int .u8 ((x.b10.toNat : Int)), .int .u8 ((x.b11.toNat : Int)), .int .u8 ((x.b12.toNat : Int)), .int .u8 ((x.b13.toNat : Int)), .int .u8 ((x.b14.toNat : Int)), .int .u8 ((x.b15.toNat : Int))]) (x_load (p := .pointer (some ⟨b1, 0, none⟩)) rfl (by kernel_rfl) (run_loadA (k := 17) (by kernel_rfl) (by kernel_rfl) (hO.blk (List.mem_cons_of_mem _ List.mem_cons_self)) (by kernel_rfl) (by kernel_rfl))) ?_; clear hF; intro a hF
      refine Lc hF (addr_Bits4 x W10 (by assumption)) ?_
      clear hF; rintro _ W11 a ⟨rfl, hk⟩ hF
      replace hO := hO.call0 hk; clear hk
      refine Vp hF (.int .i64 32) ?_; clear hF; intro a hF
      refine Vp hF (.bool true) ?_; clear hF; intro a hF
      refine Vp hF (.bool true) ?_; clear hF; intro a hF
      refine Vp hF (.bool true) ?_; clear hF; intro a hF
      refine L_nil ?_
      refine hK14 _ _ ?_
      refine wp_ret ?_
      -- way 2: rightIp x; ¬ x.six
      refine ret1 hF (v := .bool true) rfl (resT (by kernel_rfl)) (by refine ⟨?_, hO.nil⟩; first | rfl | (simp [*]; done)) .ret (.inl rfl)
    ·
      replace hF := hF.know (d := 31) (v' := .bool true) (by kernel_rfl) (congrArg Value.bool q2)
      refine cond_t hF (by kernel_rfl) (by kernel_rfl) ?_
      refine wp_region_lit ?_
      refine Vp hF (.int .i64 128) ?_; clear hF; intro a hF
      refine L_nil ?_
      refine hK12 _ _ ?_
      refine wp_seq_k fun K15 hK15 => ?_
      refine wp_region_lit ?_
      refine Vp hF (.nilIface) ?_; clear hF; intro a hF
      refine Vp hF (.bool true) ?_; clear hF; intro a hF
      refine Vp hF (.bool true) ?_; clear hF; intro a hF
      refine Vr hF (.agg #[.bool x.six, .int .u8 ((x.b0.toNat : Int)), .int .u8 ((x.b1.toNat : Int)), .int .u8 ((x.b2.toNat : Int)), .int .u8 ((x.b3.toNat : Int)), .int .u8 ((x.b4.toNat : Int)), .int .u8 ((x.b5.toNat : Int)), .int .u8 ((x.b6.toNat : Int)), .int .u8 ((x.b7.toNat : Int)), .int .u8 ((x.b8.toNat : Int)), .int .u8 ((x.b9.toNat : Int)), .int .u8 ((x.b10.toNat : Int)), .int .u8 ((x.b11.toNat : Int)), .int .u8 ((x.b12.toNat : Int)), .int .u8 ((x.b13.toNat : Int)), .int .u8 ((x.b14.toNat : Int)), .int .u8 ((x.b15.toNat : Int))]) (x_load (p := .pointer (some ⟨b2, 0, none⟩)) rfl (by kernel_rfl) (run_loadA (k := 17) (by kernel_rfl) (by kernel_rfl) (hO.blk List.mem_cons_self) (by kernel_rfl) (by kernel_rfl))) ?_; clear hF; intro a hF
      refine Vr hF (.agg #[.bool x.six, .int .u8 ((x.b0.toNat : Int)), .int .u8 ((x.b1.toNat : Int)), .int .u8 ((x.b2.toNat : Int)), .int .u8 ((x.b3.toNat : Int)), .int .u8 ((x.b4.toNat : Int)), .int .u8 ((x.b5.toNat : Int)), .int .u8 ((x.b6.toNat : Int)), .int .u8 ((x.b7.toNat : Int)), .int .u8 ((x.b8.toNat : Int)), .int .u8 ((x.b9.toNat : Int)), .int .u8 ((x.b10.toNat : Int)), .int .u8 ((x.b11.toNat : Int)), .int .u8 ((x.b12.toNat : Int)), .int .u8 ((x.b13.toNat : Int)), .int .u8 ((x.b14.toNat : Int)), .int .u8 ((x.b15.toNat : Int))]) (x_load (p := .pointer (some ⟨b1, 0, none⟩)) rfl (by kernel_rfl) (run_loadA (k := 17) (by kernel_rfl) (by kernel_rfl) (hO.blk (List.mem_cons_of_mem _ List.mem_cons_self)) (by kernel_rfl) (by kernel_rfl))) ?_; clear hF; intro a hF
      refine Vr hF (.bool true) (x_bool (x := decide (x = x)) (decide_eq_true rfl) (x_eqIp (a := x) (b := x) rfl (by kernel_rfl) (by kernel_rfl))) ?_; clear hF; intro a hF
      refine Vp hF (.bool true) ?_; clear hF; intro a hF
      refine Vp hF (.bool true) ?_; clear hF; intro a hF
      refine Vr hF (.agg #[.bool x.six, .int .u8 ((x.b0.toNat : Int)), .int .u8 ((x.b1.toNat : Int)), .int .u8 ((x.b2.toNat : Int)), .int .u8 ((x.b3.toNat : Int)), .int .u8 ((x.b4.toNat : Int)), .int .u8 ((x.b5.toNat : Int)), .int .u8 ((x.b6.toNat : Int)), .int .u8 ((x.b7.toNat : Int)), .int .u8 ((x.b8.toNat : Int)), .int .u8 ((x.b9.toNat : Int)), .int .u8 ((x.b10.toNat : Int)), .int .u8 ((x.b11.toNat : Int)), .int .u8 ((x.b12.toNat : Int)), .int .u8 ((x.b13.toNat : Int)), .int .u8 ((x.b14.toNat : Int)), .int .u8 ((x.b15.toNat : Int))]) (x_load (p := .pointer (some ⟨b1, 0, none⟩)) rfl (by kernel_rfl) (run_loadA (k := 17) (by kernel_rfl) (by kernel_rfl) (hO.blk (List.mem_cons_of_mem _ List.mem_cons_self)) (by kernel_rfl) (by kernel_rfl))) ?_; clear hF; intro a hF
      refine Lc hF (addr_Bits6 x W10 (by assumption)) ?_
      clear hF; rintro _ W12 a ⟨rfl, hk⟩ hF
      replace hO := hO.call0 hk; clear hk
      refine Vp hF (.int .i64 128) ?_; clear hF; intro a hF
      refine Vp hF (.bool true) ?_; clear hF; intro a hF
      refine Vp hF (.bool true) ?_; clear hF; intro a hF
      refine Vp hF (.bool true) ?_; clear hF; intro a hF
      refine L_nil ?_
      refine hK15 _ _ ?_
      refine wp_ret ?_
      -- way 3: rightIp x; x.six
      refine ret1 hF (v := .bool true) rfl (resT (by kernel_rfl)) (by refine ⟨?_, hO.nil⟩; first | rfl | (simp [*]; done)) .ret (.inl rfl)

set_option maxRecDepth 20000 in
theorem law02_AddrOrders (I : List Nat) (ea : Nat → Addr) (xa xb xc : Ip) (W : World) (hG : LibW W) (hE : Errs I ea W) (h3 : I.contains 3 = true) : Ret Tryz.prog 5 #[ipV xa, ipV xb, ipV xc] W fun v W' => v = .bool true ∧ Own W noX [] W' := by
  have bd1 := refIp_bd xa xb
  have bd2 := refIp_bd xb xc
  have ng := refIp_neg xa xb
  have sf := refIp_self xa
  refine enter Tryz.func5 rfl (n := 49) rfl (by kernel_rfl) (E0 := [(2, ipV xc), (1, ipV xb), (0, ipV xa)]) (by kernel_rfl) ?_
  intro a hF; have hO := Own.start W noX
  refine wp_seq_k fun K1 hK1 => ?_
  refine wp_region_lit ?_
  refine L_new hF hO (by kernel_rfl) (by kernel_rfl) (vf := fun b => .pointer (some ⟨b, 0, none⟩)) (ob := .cells #[.bool xa.six, .int .u8 ((xa.b0.toNat : Int)), .int .u8 ((xa.b1.toNat : Int)), .int .u8 ((xa.b2.toNat : Int)), .int .u8 ((xa.b3.toNat : Int)), .int .u8 ((xa.b4.toNat : Int)), .int .u8 ((xa.b5.toNat : Int)), .int .u8 ((xa.b6.toNat : Int)), .int .u8 ((xa.b7.toNat : Int)), .int .u8 ((xa.b8.toNat : Int)), .int .u8 ((xa.b9.toNat : Int)), .int .u8 ((xa.b10.toNat : Int)), .int .u8 ((xa.b11.toNat : Int)), .int .u8 ((xa.b12.toNat : Int)), .int .u8 ((xa.b13.toNat : Int)), .int .u8 ((xa.b14.toNat : Int)), .int .u8 ((xa.b15.toNat : Int))] 33) (by kernel_rfl) (by kernel_rfl) ?_
  clear hF hO; intro b1 W1 a hO hF
  replace hO := hO.reblk (cs := #[.bool xa.six, .int .u8 ((xa.b0.toNat : Int)), .int .u8 ((xa.b1.toNat : Int)), .int .u8 ((xa.b2.toNat : Int)), .int .u8 ((xa.b3.toNat : Int)), .int .u8 ((xa.b4.toNat : Int)), .int .u8 ((xa.b5.toNat : Int)), .int .u8 ((xa.b6.toNat : Int)), .int .u8 ((xa.b7.toNat : Int)), .int .u8 ((xa.b8.toNat : Int)), .int .u8 ((xa.b9.toNat : Int)), .int .u8 ((xa.b10.toNat : Int)), .int .u8 ((xa.b11.toNat : Int)), .int .u8 ((xa.b12.toNat : Int)), .int .u8 ((xa.b13.toNat : Int)), .int .u8 ((xa.b14.toNat : Int)), .int .u8 ((xa.b15.toNat : Int))]) (cs' := (ipL xa).toArray) (by kernel_rfl) (.head _)
  refine L_new hF hO (by kernel_rfl) (by kernel_rfl) (vf := fun b => .pointer (some ⟨b, 0, none⟩)) (ob := .cells #[.bool xb.six, .int .u8 ((xb.b0.toNat : Int)), .int .u8 ((xb.b1.toNat : Int)), .int .u8 ((xb.b2.toNat : Int)), .int .u8 ((xb.b3.toNat : Int)), .int .u8 ((xb.b4.toNat : Int)), .int .u8 ((xb.b5.toNat : Int)), .int .u8 ((xb.b6.toNat : Int)), .int .u8 ((xb.b7.toNat : Int)), .int .u8 ((xb.b8.toNat : Int)), .int .u8 ((xb.b9.toNat : Int)), .int .u8 ((xb.b10.toNat : Int)), .int .u8 ((xb.b11.toNat : Int)), .int .u8 ((xb.b12.toNat : Int)), .int .u8 ((xb.b13.toNat : Int)), .int .u8 ((xb.b14.toNat : Int)), .int .u8 ((xb.b15.toNat : Int))] 33) (by kernel_rfl) (by kernel_rfl) ?_
  clear hF hO; intro b2 W2 a hO hF
  replace hO := hO.reblk (cs := #[.bool xb.six, .int .u8 ((xb.b0.toNat : Int)), .int .u8 ((xb.b1.toNat : Int)), .int .u8 ((xb.b2.toNat : Int)), .int .u8 ((xb.b3.toNat : Int)), .int .u8 ((xb.b4.toNat : Int)), .int .u8 ((xb.b5.toNat : Int)), .int .u8 ((xb.b6.toNat : Int)), .int .u8 ((xb.b7.toNat : Int)), .int .u8 ((xb.b8.toNat : Int)), .int .u8 ((xb.b9.toNat : Int)), .int .u8 ((xb.b10.toNat : Int)), .int .u8 ((xb.b11.toNat : Int)), .int .u8 ((xb.b12.toNat : Int)), .int .u8 ((xb.b13.toNat : Int)), .int .u8 ((xb.b14.toNat : Int)), .int .u8 ((xb.b15.toNat : Int))]) (cs' := (ipL xb).toArray) (by kernel_rfl) (.head _)
  refine L_new hF hO (by kernel_rfl) (by kernel_rfl) (vf := fun b => .pointer (some ⟨b, 0, none⟩)) (ob := .cells #[.bool xc.six, .int .u8 ((xc.b0.toNat : Int)), .int .u8 ((xc.b1.toNat : Int)), .int .u8 ((xc.b2.toNat : Int)), .int .u8 ((xc.b3.toNat : Int)), .int .u8 ((xc.b4.toNat : Int)), .int .u8 ((xc.b5.toNat : Int)), .int .u8 ((xc.b6.toNat : Int)), .int .u8 ((xc.b7.toNat : Int)), .int .u8 ((xc.b8.toNat : Int)), .int .u8 ((xc.b9.toNat : Int)), .int .u8 ((xc.b10.toNat : Int)), .int .u8 ((xc.b11.toNat : Int)), .int .u8 ((xc.b12.toNat : Int)), .int .u8 ((xc.b13.toNat : Int)), .int .u8 ((xc.b14.toNat : Int)), .int .u8 ((xc.b15.toNat : Int))] 33) (by kernel_rfl) (by kernel_rfl) ?_
  clear hF hO; intro b3 W3 a hO hF
  replace hO := hO.reblk (cs := #[.bool xc.six, .int .u8 ((xc.b0.toNat : Int)), .int .u8 ((xc.b1.toNat : Int)), .int .u8 ((xc.b2.toNat : Int)), .int .u8 ((xc.b3.toNat : Int)), .int .u8 ((xc.b4.toNat : Int)), .int .u8 ((xc.b5.toNat : Int)), .int .u8 ((xc.b6.toNat : Int)), .int .u8 ((xc.b7.toNat : Int)), .int .u8 ((xc.b8.toNat : Int)), .int .u8 ((xc.b9.toNat : Int)), .int .u8 ((xc.b10.toNat : Int)), .int .u8 ((xc.b11.toNat : Int)), .int .u8 ((xc.b12.toNat : Int)), .int .u8 ((xc.b13.toNat : Int)), .int .u8 ((xc.b14.toNat : Int)), .int .u8 ((xc.b15.toNat : Int))]) (cs' := (ipL xc).toArray) (by kernel_rfl) (.head _)
  refine Vp hF (.bool false) ?_; clear hF; intro a hF
  refine L_nil ?_
  refine hK1 _ _ ?_
  refine wp_seq_k fun K2 hK2 => ?_
  refine wp_seq_k fun K3 hK3 => ?_
  refine wp_region_lit ?_
  refine Lc hF (law02_alive I ea W3 (hG.own hO) (hE.own hO) h3) ?_
  clear hF; rintro _ W4 a ⟨rfl, hk⟩ hF
  replace hO := hO.call0 hk; clear hk
  refine Vp hF (.bool false) ?_; clear hF; intro a hF
  refine L_nil ?_
  refine hK3 _ _ ?_
  refine cond_f hF (by kernel_rfl) (by kernel_rfl) ?_
  refine wp_skip ?_
  refine hK2 _ _ ?_
  refine wp_seq_k fun K4 hK4 => ?_
  refine A_start (fun Wx => Own W noX [.blk b3 (.cells (ipL xc).toArray 33 (0, 0)), .blk b2 (.cells (ipL xb).toArray 33 (0, 0)), .blk b1 (.cells (ipL xa).toArray 33 (0, 0))] Wx) (by kernel_rfl) ?_
  replace hO := hO.drewN 1
  generalize hWd : ({ W4 with drawn := W4.drawn + 1 } : World) = W4_d at hO ⊢; clear hWd
  refine Tk 0 hF (.agg #[.bool xa.six, .int .u8 ((xa.b0.toNat : Int)), .int .u8 ((xa.b1.toNat : Int)), .int .u8 ((xa.b2.toNat : Int)), .int .u8 ((xa.b3.toNat : Int)), .int .u8 ((xa.b4.toNat : Int)), .int .u8 ((xa.b5.toNat : Int)), .int .u8 ((xa.b6.toNat : Int)), .int .u8 ((xa.b7.toNat : Int)), .int .u8 ((xa.b8.toNat : Int)), .int .u8 ((xa.b9.toNat : Int)), .int .u8 ((xa.b10.toNat : Int)), .int .u8 ((xa.b11.toNat : Int)), .int .u8 ((xa.b12.toNat : Int)), .int .u8 ((xa.b13.toNat : Int)), .int .u8 ((xa.b14.toNat : Int)), .int .u8 ((xa.b15.toNat : Int))]) (fun Wx hO => x_load (p := .pointer (some ⟨b1, 0, none⟩)) rfl (by kernel_rfl) (run_loadA (k := 17) (by kernel_rfl) (by kernel_rfl) (hO.blk (List.mem_cons_of_mem _ (List.mem_cons_of_mem _ List.mem_cons_self))) (by kernel_rfl) (by kernel_rfl))) (hO.sub (.cons_cons _ (.cons_cons _ (.cons_cons _ (List.nil_sublist _))))) ?_; clear hF; intro a hF
  refine Tk 1 hF (.agg #[.bool xb.six, .int .u8 ((xb.b0.toNat : Int)), .int .u8 ((xb.b1.toNat : Int)), .int .u8 ((xb.b2.toNat : Int)), .int .u8 ((xb.b3.toNat : Int)), .int .u8 ((xb.b4.toNat : Int)), .int .u8 ((xb.b5.toNat : Int)), .int .u8 ((xb.b6.toNat : Int)), .int .u8 ((xb.b7.toNat : Int)), .int .u8 ((xb.b8.toNat : Int)), .int .u8 ((xb.b9.toNat : Int)), .int .u8 ((xb.b10.toNat : Int)), .int .u8 ((xb.b11.toNat : Int)), .int .u8 ((xb.b12.toNat : Int)), .int .u8 ((xb.b13.toNat : Int)), .int .u8 ((xb.b14.toNat : Int)), .int .u8 ((xb.b15.toNat : Int))]) (fun Wx hO => x_load (p := .pointer (some ⟨b2, 0, none⟩)) rfl (by kernel_rfl) (run_loadA (k := 17) (by kernel_rfl) (by kernel_rfl) (hO.blk (List.mem_cons_of_mem _ List.mem_cons_self)) (by kernel_rfl) (by kernel_rfl))) (hO.sub (.cons_cons _ (.cons_cons _ (.cons_cons _ (List.nil_sublist _))))) ?_; clear hF; intro a hF
  refine Tk 3 hF (.agg #[.bool xb.six, .int .u8 ((xb.b0.toNat : Int)), .int .u8 ((xb.b1.toNat : Int)), .int .u8 ((xb.b2.toNat : Int)), .int .u8 ((xb.b3.toNat : Int)), .int .u8 ((xb.b4.toNat : Int)), .int .u8 ((xb.b5.toNat : Int)), .int .u8 ((xb.b6.toNat : Int)), .int .u8 ((xb.b7.toNat : Int)), .int .u8 ((xb.b8.toNat : Int)), .int .u8 ((xb.b9.toNat : Int)), .int .u8 ((xb.b10.toNat : Int)), .int .u8 ((xb.b11.toNat : Int)), .int .u8 ((xb.b12.toNat : Int)), .int .u8 ((xb.b13.toNat : Int)), .int .u8 ((xb.b14.toNat : Int)), .int .u8 ((xb.b15.toNat : Int))]) (fun Wx hO => x_load (p := .pointer (some ⟨b2, 0, none⟩)) rfl (by kernel_rfl) (run_loadA (k := 17) (by kernel_rfl) (by kernel_rfl) (hO.blk (List.mem_cons_of_mem _ List.mem_cons_self)) (by kernel_rfl) (by kernel_rfl))) (hO.sub (.cons_cons _ (.cons_cons _ (.cons_cons _ (List.nil_sublist _))))) ?_; clear hF; intro a hF
  refine Tk 4 hF (.agg #[.bool xc.six, .int .u8 ((xc.b0.toNat : Int)), .int .u8 ((xc.b1.toNat : Int)), .int .u8 ((xc.b2.toNat : Int)), .int .u8 ((xc.b3.toNat : Int)), .int .u8 ((xc.b4.toNat : Int)), .int .u8 ((xc.b5.toNat : Int)), .int .u8 ((xc.b6.toNat : Int)), .int .u8 ((xc.b7.toNat : Int)), .int .u8 ((xc.b8.toNat : Int)), .int .u8 ((xc.b9.toNat : Int)), .int .u8 ((xc.b10.toNat : Int)), .int .u8 ((xc.b11.toNat : Int)), .int .u8 ((xc.b12.toNat : Int)), .int .u8 ((xc.b13.toNat : Int)), .int .u8 ((xc.b14.toNat : Int)), .int .u8 ((xc.b15.toNat : Int))]) (fun Wx hO => x_load (p := .pointer (some ⟨b3, 0, none⟩)) rfl (by kernel_rfl) (run_loadA (k := 17) (by kernel_rfl) (by kernel_rfl) (hO.blk List.mem_cons_self) (by kernel_rfl) (by kernel_rfl))) (hO.sub (.cons_cons _ (.cons_cons _ (.cons_cons _ (List.nil_sublist _))))) ?_; clear hF; intro a hF
  refine A_one (i := 2) (listed' := #[true, true, true, true, true, false, false, false]) (by kernel_rfl) rfl (by kernel_rfl) ?_
  refine OpK.lc hF ((addr_Compare xa xb W4_d).mono fun v W' h => (⟨h.1.trans (congrArg (Value.int _) (cmpIp_refIp xa xb)), own_noX h.2⟩ : v = .int .i64 ((refIp xa xb)) ∧ Own W4_d noX [] W')) ?_
  clear hF; rintro _ W5 a ⟨rfl, hk⟩ hF
  replace hO := hO.call0 hk; clear hk
  refine ⟨hO.sub (.cons_cons _ (.cons_cons _ (.cons_cons _ (List.nil_sublist _)))), ?_⟩
  refine A_one (i := 5) (listed' := #[true, true, true, true, true, true, false, false]) (by kernel_rfl) rfl (by kernel_rfl) ?_
  refine OpK.lc hF ((addr_Compare xb xc W5).mono fun v W' h => (⟨h.1.trans (congrArg (Value.int _) (cmpIp_refIp xb xc)), own_noX h.2⟩ : v = .int .i64 ((refIp xb xc)) ∧ Own W5 noX [] W')) ?_
  clear hF; rintro _ W6 a ⟨rfl, hk⟩ hF
  replace hO := hO.call0 hk; clear hk
  refine ⟨hO.sub (.cons_cons _ (.cons_cons _ (.cons_cons _ (List.nil_sublist _)))), ?_⟩
  refine Tk 6 hF (.int .i64 ((refIp xa xb))) (fun Wx _ => by kernel_rfl) (hO.sub (.cons_cons _ (.cons_cons _ (.cons_cons _ (List.nil_sublist _))))) ?_; clear hF; intro a hF
  refine Tk 7 hF (.int .i64 ((refIp xb xc))) (fun Wx _ => by kernel_rfl) (hO.sub (.cons_cons _ (.cons_cons _ (.cons_cons _ (List.nil_sublist _))))) ?_; clear hF; intro a hF
  refine A_done (by kernel_rfl) ?_
  refine hK4 _ _ ?_
  refine wp_seq_k fun K5 hK5 => ?_
  refine wp_seq_k fun K6 hK6 => ?_
  refine wp_region_lit ?_
  refine Vp hF (.int .i64 ((refIp xa xb))) ?_; clear hF; intro a hF
  refine Vr hF (.agg #[.bool xa.six, .int .u8 ((xa.b0.toNat : Int)), .int .u8 ((xa.b1.toNat : Int)), .int .u8 ((xa.b2.toNat : Int)), .int .u8 ((xa.b3.toNat : Int)), .int .u8 ((xa.b4.toNat : Int)), .int .u8 ((xa.b5.toNat : Int)), .int .u8 ((xa.b6.toNat : Int)), .int .u8 ((xa.b7.toNat : Int)), .int .u8 ((xa.b8.toNat : Int)), .int .u8 ((xa.b9.toNat : Int)), .int .u8 ((xa.b10.toNat : Int)), .int .u8 ((xa.b11.toNat : Int)), .int .u8 ((xa.b12.toNat : Int)), .int .u8 ((xa.b13.toNat : Int)), .int .u8 ((xa.b14.toNat : Int)), .int .u8 ((xa.b15.toNat : Int))]) (x_load (p := .pointer (some ⟨b1, 0, none⟩)) rfl (by kernel_rfl) (run_loadA (k := 17) (by kernel_rfl) (by kernel_rfl) (hO.blk (List.mem_cons_of_mem _ (List.mem_cons_of_mem _ List.mem_cons_self))) (by kernel_rfl) (by kernel_rfl))) ?_; clear hF; intro a hF
  refine Vr hF (.agg #[.bool xb.six, .int .u8 ((xb.b0.toNat : Int)), .int .u8 ((xb.b1.toNat : Int)), .int .u8 ((xb.b2.toNat : Int)), .int .u8 ((xb.b3.toNat : Int)), .int .u8 ((xb.b4.toNat : Int)), .int .u8 ((xb.b5.toNat : Int)), .int .u8 ((xb.b6.toNat : Int)), .int .u8 ((xb.b7.toNat : Int)), .int .u8 ((xb.b8.toNat : Int)), .int .u8 ((xb.b9.toNat : Int)), .int .u8 ((xb.b10.toNat : Int)), .int .u8 ((xb.b11.toNat : Int)), .int .u8 ((xb.b12.toNat : Int)), .int .u8 ((xb.b13.toNat : Int)), .int .u8 ((xb.b14.toNat : Int)), .int .u8 ((xb.b15.toNat : Int))]) (x_load (p := .pointer (some ⟨b2, 0, none⟩)) rfl (by kernel_rfl) (run_loadA (k := 17) (by kernel_rfl) (by kernel_rfl) (hO.blk (List.mem_cons_of_mem _ List.mem_cons_self)) (by kernel_rfl) (by kernel_rfl))) ?_; clear hF; intro a hF
  refine Lc hF (ref02_Compare xa xb W6) ?_
  clear hF; rintro _ W7 a ⟨rfl, hk⟩ hF
  replace hO := hO.call0 hk; clear hk
  refine Vr hF (.bool false) (x_bool (x := !((refIp xa xb) == (refIp xa xb))) (notF (beq_self_eq_true _)) (by kernel_rfl)) ?_; clear hF; intro a hF
  refine Vp hF (.bool false) ?_; clear hF; intro a hF
  refine Vr hF (.agg #[.bool xb.six, .int .u8 ((xb.b0.toNat : Int)), .int .u8 ((xb.b1.toNat : Int)), .int .u8 ((xb.b2.toNat : Int)), .int .u8 ((xb.b3.toNat : Int)), .int .u8 ((xb.b4.toNat : Int)), .int .u8 ((xb.b5.toNat : Int)), .int .u8 ((xb.b6.toNat : Int)), .int .u8 ((xb.b7.toNat : Int)), .int .u8 ((xb.b8.toNat : Int)), .int .u8 ((xb.b9.toNat : Int)), .int .u8 ((xb.b10.toNat : Int)), .int .u8 ((xb.b11.toNat : Int)), .int .u8 ((xb.b12.toNat : Int)), .int .u8 ((xb.b13.toNat : Int)), .int .u8 ((xb.b14.toNat : Int)), .int .u8 ((xb.b15.toNat : Int))]) (x_load (p := .pointer (some ⟨b2, 0, none⟩)) rfl (by kernel_rfl) (run_loadA (k := 17) (by kernel_rfl) (by kernel_rfl) (hO.blk (List.mem_cons_of_mem _ List.mem_cons_self)) (by kernel_rfl) (by kernel_rfl))) ?_; clear hF; intro a hF
  refine Vr hF (.agg #[.bool xa.six, .int .u8 ((xa.b0.toNat : Int)), .int .u8 ((xa.b1.toNat : Int)), .int .u8 ((xa.b2.toNat : Int)), .int .u8 ((xa.b3.toNat : Int)), .int .u8 ((xa.b4.toNat : Int)), .int .u8 ((xa.b5.toNat : Int)), .int .u8 ((xa.b6.toNat : Int)), .int .u8 ((xa.b7.toNat : Int)), .int .u8 ((xa.b8.toNat : Int)), .int .u8 ((xa.b9.toNat : Int)), .int .u8 ((xa.b10.toNat : Int)), .int .u8 ((xa.b11.toNat : Int)), .int .u8 ((xa.b12.toNat : Int)), .int .u8 ((xa.b13.toNat : Int)), .int .u8 ((xa.b14.toNat : Int)), .int .u8 ((xa.b15.toNat : Int))]) (x_load (p := .pointer (some ⟨b1, 0, none⟩)) rfl (by kernel_rfl) (run_loadA (k := 17) (by kernel_rfl) (by kernel_rfl) (hO.blk (List.mem_cons_of_mem _ (List.mem_cons_of_mem _ List.mem_cons_self))) (by kernel_rfl) (by kernel_rfl))) ?_; clear hF; intro a hF
  refine Lc hF ((addr_Compare xb xa W7).mono fun v W' h => (⟨h.1.trans (congrArg (Value.int _) (cmpIp_refIp xb xa)), own_noX h.2⟩ : v = .int .i64 ((refIp xb xa)) ∧ Own W7 noX [] W')) ?_
  clear hF; rintro _ W8 a ⟨rfl, hk⟩ hF
  replace hO := hO.call0 hk; clear hk
  refine Vp hF (.int .i64 ((refIp xa xb))) ?_; clear hF; intro a hF
  refine Vr hF (.int .i64 (0 - (refIp xa xb))) (x_int (x := IntKind.i64.wrap (0 - (refIp xa xb))) (i64In (by omega) (by omega)) (by kernel_rfl)) ?_; clear hF; intro a hF
  refine Vp hF (.bool (!((refIp xb xa) == (0 - (refIp xa xb))))) ?_; clear hF; intro a hF
  refine Vp hF (.bool (!((refIp xb xa) == (0 - (refIp xa xb))))) ?_; clear hF; intro a hF
  refine Vp hF (.bool (!((refIp xb xa) == (0 - (refIp xa xb))))) ?_; clear hF; intro a hF
  by_cases q1 : ¬ (refIp xb xa) = 0 - (refIp xa xb)
  ·
    replace hF := hF.know (d := 30) (v' := .bool true) (by kernel_rfl) (congrArg Value.bool (neT q1))
    refine Lo hF ?_; clear hF; intro a hF
    refine Lo hF ?_; clear hF; intro a hF
    refine Lo hF ?_; clear hF; intro a hF
    refine Lo hF ?_; clear hF; intro a hF
    refine Vp hF (.bool true) ?_; clear hF; intro a hF
    refine L_nil ?_
    refine hK6 _ _ ?_
    refine cond_t hF (by kernel_rfl) (by kernel_rfl) ?_
    refine wp_seq_k fun K7 hK7 => ?_
    refine wp_region_lit ?_
    refine Vp hF (.bool false) ?_; clear hF; intro a hF
    refine L_nil ?_
    refine hK7 _ _ ?_
    refine wp_ret ?_
    refine then_ret ?_
    -- way 1: ¬ (refIp xb xa) = 0 - (refIp xa xb)
    refine ret1 hF (v := .bool false) rfl (resT (by kernel_rfl)) (by refine ⟨?_, hO.nil⟩; first | rfl | (exfalso; omega) | exact congrArg Value.bool (decide_eq_true (refIp_trans xa xb xc (by omega) (by omega)))) .ret (.inl rfl)
  ·
    replace hF := hF.know (d := 30) (v' := .bool false) (by kernel_rfl) (congrArg Value.bool (neF q1))
    refine Vr hF (.agg #[.bool xa.six, .int .u8 ((xa.b0.toNat : Int)), .int .u8 ((xa.b1.toNat : Int)), .int .u8 ((xa.b2.toNat : Int)), .int .u8 ((xa.b3.toNat : Int)), .int .u8 ((xa.b4.toNat : Int)), .int .u8 ((xa.b5.toNat : Int)), .int .u8 ((xa.b6.toNat : Int)), .int .u8 ((xa.b7.toNat : Int)), .int .u8 ((xa.b8.toNat : Int)), .int .u8 ((xa.b9.toNat : Int)), .int .u8 ((xa.b10.toNat : Int)), .int .u8 ((xa.b11.toNat : Int)), .int .u8 ((xa.b12.toNat : Int)), .int .u8 ((xa.b13.toNat : Int)), .int .u8 ((xa.b14.toNat : Int)), .int .u8 ((xa.b15.toNat : Int))]) (x_load (p := .pointer (some ⟨b1, 0, none⟩)) rfl (by kernel_rfl) (run_loadA (k := 17) (by kernel_rfl) (by kernel_rfl) (hO.blk (List.mem_cons_of_mem _ (List.mem_cons_of_mem _ List.mem_cons_self))) (by kernel_rfl) (by kernel_rfl))) ?_; clear hF; intro a hF
    refine Vr hF (.agg #[.bool xa.six, .int .u8 ((xa.b0.toNat : Int)), .int .u8 ((xa.b1.toNat : Int)), .int .u8 ((xa.b2.toNat : Int)), .int .u8 ((xa.b3.toNat : Int)), .int .u8 ((xa.b4.toNat : Int)), .int .u8 ((xa.b5.toNat : Int)), .int .u8 ((xa.b6.toNat : Int)), .int .u8 ((xa.b7.toNat : Int)), .int .u8 ((xa.b8.toNat : Int)), .int .u8 ((xa.b9.toNat : Int)), .int .u8 ((xa.b10.toNat : Int)), .int .u8 ((xa.b11.toNat : Int)), .int .u8 ((xa.b12.toNat : Int)), .int .u8 ((xa.b13.toNat : Int)), .int .u8 ((xa.b14.toNat : Int)), .int .u8 ((xa.b15.toNat : Int))]) (x_load (p := .pointer (some ⟨b1, 0, none⟩)) rfl (by kernel_rfl) (run_loadA (k := 17) (by kernel_rfl) (by kernel_rfl) (hO.blk (List.mem_cons_of_mem _ (List.mem_cons_of_mem _ List.mem_cons_self))) (by kernel_rfl) (by kernel_rfl))) ?_; clear hF; intro a hF
    refine Lc hF ((addr_Compare xa xa W8).mono fun v W' h => (⟨h.1.trans (congrArg (Value.int _) (cmpIp_refIp xa xa)), own_noX h.2⟩ : v = .int .i64 ((refIp xa xa)) ∧ Own W8 noX [] W')) ?_
    clear hF; rintro _ W9 a ⟨rfl, hk⟩ hF
    replace hO := hO.call0 hk; clear hk
    refine Vp hF (.bool (!((refIp xa xa) == 0))) ?_; clear hF; intro a hF
    refine Vp hF (.bool (!((refIp xa xa) == 0))) ?_; clear hF; intro a hF
    refine L_nil ?_
    refine hK6 _ _ ?_
    by_cases q2 : ¬ (refIp xa xa) = 0
    ·
      replace hF := hF.know (d := 35) (v' := .bool true) (by kernel_rfl) (congrArg Value.bool (neT q2))
      refine cond_t hF (by kernel_rfl) (by kernel_rfl) ?_
      refine wp_seq_k fun K8 hK8 => ?_
      refine wp_region_lit ?_
      refine Vp hF (.bool false) ?_; clear hF; intro a hF
      refine L_nil ?_
      refine hK8 _ _ ?_
      refine wp_ret ?_
      refine then_ret ?_
      -- way 2: ¬ ¬ (refIp xb xa) = 0 - (refIp xa xb); ¬ (refIp xa xa) = 0
      refine ret1 hF (v := .bool false) rfl (resT (by kernel_rfl)) (by refine ⟨?_, hO.nil⟩; first | rfl | (exfalso; omega) | exact congrArg Value.bool (decide_eq_true (refIp_trans xa xb xc (by omega) (by omega)))) .ret (.inl rfl)
    ·
      replace hF := hF.know (d := 35) (v' := .bool false) (by kernel_rfl) (congrArg Value.bool (neF q2))
      refine cond_f hF (by kernel_rfl) (by kernel_rfl) ?_
      refine wp_skip ?_
      refine hK5 _ _ ?_
      refine wp_seq_k fun K9 hK9 => ?_
      refine wp_region_lit ?_
      refine Vp hF (.int .i64 ((refIp xa xb))) ?_; clear hF; intro a hF
      refine Vp hF (.bool (decide ((refIp xa xb) ≤ 0))) ?_; clear hF; intro a hF
      refine Vp hF (.bool (decide ((refIp xa xb) ≤ 0))) ?_; clear hF; intro a hF
      by_cases q3 : (refIp xa xb) ≤ 0
      ·
        replace hF := hF.know (d := 38) (v' := .bool true) (by kernel_rfl) (congrArg Value.bool (decide_eq_true q3))
        refine Vp hF (.int .i64 ((refIp xb xc))) ?_; clear hF; intro a hF
        refine Vp hF (.bool (decide ((refIp xb xc) ≤ 0))) ?_; clear hF; intro a hF
        refine Vp hF (.bool (decide ((refIp xb xc) ≤ 0))) ?_; clear hF; intro a hF
        refine Vp hF (.bool (!(decide ((refIp xb xc) ≤ 0)))) ?_; clear hF; intro a hF
        refine Vp hF (.bool (!(decide ((refIp xb xc) ≤ 0)))) ?_; clear hF; intro a hF
        by_cases q4 : ¬ ((refIp xb xc) ≤ 0)
        ·
          replace hF := hF.know (d := 43) (v' := .bool true) (by kernel_rfl) (congrArg Value.bool (notT (decide_eq_false q4)))
          refine Lo hF ?_; clear hF; intro a hF
          refine Lo hF ?_; clear hF; intro a hF
          refine Lo hF ?_; clear hF; intro a hF
          refine Lo hF ?_; clear hF; intro a hF
          refine Vp hF (.bool true) ?_; clear hF; intro a hF
          refine Vp hF (.bool true) ?_; clear hF; intro a hF
          refine L_nil ?_
          refine hK9 _ _ ?_
          refine wp_ret ?_
          -- way 3: ¬ ¬ (refIp xb xa) = 0 - (refIp xa xb); ¬ ¬ (refIp xa xa) = 0; (refIp xa xb) ≤ 0; ¬ ((refIp xb xc) ≤ 0)
          refine ret1 hF (v := .bool true) rfl (resT (by kernel_rfl)) (by refine ⟨?_, hO.nil⟩; first | rfl | (exfalso; omega) | exact congrArg Value.bool (decide_eq_true (refIp_trans xa xb xc (by omega) (by omega)))) .ret (.inl rfl)
        ·
          replace hF := hF.know (d := 43) (v' := .bool false) (by kernel_rfl) (congrArg Value.bool (notF (decide_eq_true (Decidable.of_not_not q4))))
          refine Vr hF (.agg #[.bool xa.six, .int .u8 ((xa.b0.toNat : Int)), .int .u8 ((xa.b1.toNat : Int)), .int .u8 ((xa.b2.toNat : Int)), .int .u8 ((xa.b3.toNat : Int)), .int .u8 ((xa.b4.toNat : Int)), .int .u8 ((xa.b5.toNat : Int)), .int .u8 ((xa.b6.toNat : Int)), .int .u8 ((xa.b7.toNat : Int)), .int .u8 ((xa.b8.toNat : Int)), .int .u8 ((xa.b9.toNat : Int)), .int .u8 ((xa.b10.toNat : Int)), .int .u8 ((xa.b11.toNat : Int)), .int .u8 ((xa.b12.toNat : Int)), .int .u8 ((xa.b13.toNat : Int)), .int .u8 ((xa.b14.toNat : Int)), .int .u8 ((xa.b15.toNat : Int))]) (x_load (p := .pointer (some ⟨b1, 0, none⟩)) rfl (by kernel_rfl) (run_loadA (k := 17) (by kernel_rfl) (by kernel_rfl) (hO.blk (List.mem_cons_of_mem _ (List.mem_cons_of_mem _ List.mem_cons_self))) (by kernel_rfl) (by kernel_rfl))) ?_; clear hF; intro a hF
          refine Vr hF (.agg #[.bool xc.six, .int .u8 ((xc.b0.toNat : Int)), .int .u8 ((xc.b1.toNat : Int)), .int .u8 ((xc.b2.toNat : Int)), .int .u8 ((xc.b3.toNat : Int)), .int .u8 ((xc.b4.toNat : Int)), .int .u8 ((xc.b5.toNat : Int)), .int .u8 ((xc.b6.toNat : Int)), .int .u8 ((xc.b7.toNat : Int)), .int .u8 ((xc.b8.toNat : Int)), .int .u8 ((xc.b9.toNat : Int)), .int .u8 ((xc.b10.toNat : Int)), .int .u8 ((xc.b11.toNat : Int)), .int .u8 ((xc.b12.toNat : Int)), .int .u8 ((xc.b13.toNat : Int)), .int .u8 ((xc.b14.toNat : Int)), .int .u8 ((xc.b15.toNat : Int))]) (x_load (p := .pointer (some ⟨b3, 0, none⟩)) rfl (by kernel_rfl) (run_loadA (k := 17) (by kernel_rfl) (by kernel_rfl) (hO.blk List.mem_cons_self) (by kernel_rfl) (by kernel_rfl))) ?_; clear hF; intro a hF
          refine Lc hF ((addr_Compare xa xc W9).mono fun v W' h => (⟨h.1.trans (congrArg (Value.int _) (cmpIp_refIp xa xc)), own_noX h.2⟩ : v = .int .i64 ((refIp xa xc)) ∧ Own W9 noX [] W')) ?_
          clear hF; rintro _ W10 a ⟨rfl, hk⟩ hF
          replace hO := hO.call0 hk; clear hk
          refine Vp hF (.bool (decide ((refIp xa xc) ≤ 0))) ?_; clear hF; intro a hF
          refine Vp hF (.bool (decide ((refIp xa xc) ≤ 0))) ?_; clear hF; intro a hF
          refine Vp hF (.bool (decide ((refIp xa xc) ≤ 0))) ?_; clear hF; intro a hF
          refine L_nil ?_
          refine hK9 _ _ ?_
          refine wp_ret ?_
          -- way 4: ¬ ¬ (refIp xb xa) = 0 - (refIp xa xb); ¬ ¬ (refIp xa xa) = 0; (refIp xa xb) ≤ 0; ¬ ¬ ((refIp xb xc) ≤ 0)
          refine ret1 hF (v := .bool (decide ((refIp xa xc) ≤ 0))) rfl (resT (by kernel_rfl)) (by refine ⟨?_, hO.nil⟩; first | rfl | (exfalso; omega) | exact congrArg Value.bool (decide_eq_true (refIp_trans xa xb xc (by omega) (by omega)))) .ret (.inl rfl)
      ·
        replace hF := hF.know (d := 38) (v' := .bool false) (by kernel_rfl) (congrArg Value.bool (decide_eq_false q3))
        refine Lo hF ?_; clear hF; intro a hF
        refine Lo hF ?_; clear hF; intro a hF
        refine Vp hF (.bool false) ?_; clear hF; intro a hF
        refine Vp hF (.bool true) ?_; clear hF; intro a hF
        refine Vp hF (.bool true) ?_; clear hF; intro a hF
        refine Lo hF ?_; clear hF; intro a hF
        refine Lo hF ?_; clear hF; intro a hF
        refine Lo hF ?_; clear hF; intro a hF
        refine Lo hF ?_; clear hF; intro a hF
        refine Vp hF (.bool true) ?_; clear hF; intro a hF
        refine Vp hF (.bool true) ?_; clear hF; intro a hF
        refine L_nil ?_
        refine hK9 _ _ ?_
        refine wp_ret ?_
        -- way 5: ¬ ¬ (refIp xb xa) = 0 - (refIp xa xb); ¬ ¬ (refIp xa xa) = 0; ¬ (refIp xa xb) ≤ 0
        refine ret1 hF (v := .bool true) rfl (resT (by kernel_rfl)) (by refine ⟨?_, hO.nil⟩; first | rfl | (exfalso; omega) | exact congrArg Value.bool (decide_eq_true (refIp_trans xa xb xc (by omega) (by omega)))) .ret (.inl rfl)

end Go.Proofs.YthellfigmpjhlaaGreatDoor
