import Derived.Test.YthellfigmpjhlaaGreatDoorPortsW
namespace Go.Proofs.YthellfigmpjhlaaGreatDoor
open Go Go.RowKit
set_option linter.unusedVariables false
set_option linter.unusedSimpArgs false
def aliveS : ByteArray := ⟨#[91, 58, 58, 49, 93, 58, 56, 48]⟩
def alivePt : Pt := ⟨⟨true, 0, 0, 0, 0, 0, 0, 0, 0, 0, 0, 0, 0, 0, 0, 0, 1⟩, 80⟩
theorem itoa80 : Lib.itoa 80 = [56, 48] := by simp [Lib.itoa, Lib.decDigits]
theorem alive_num : numP ⟨#[56, 48]⟩ = 80 := by
  have h : atoiN ⟨#[56, 48]⟩ = 80 := by decide
  unfold numP
  rw [h, itoa80, if_pos]
  decide
theorem alive_parse : parsePt aliveS = some alivePt := by
  have h1 : lastC aliveS = 5 := by decide
  have h2 : ptNum aliveS = ⟨#[56, 48]⟩ := by decide
  have h3 : bareS (ptHead aliveS) = ⟨#[58, 58, 49]⟩ := by decide
  have h4 : bareOk (ptHead aliveS) = true := by decide
  have h5 : parseIp ⟨#[58, 58, 49]⟩ = some ⟨true, 0, 0, 0, 0, 0, 0, 0, 0, 0, 0, 0, 0, 0, 0, 0, 1⟩ := by decide
  have h6 := parsePt_good (s := aliveS) (x0 := ⟨true, 0, 0, 0, 0, 0, 0, 0, 0, 0, 0, 0, 0, 0, 0, 0, 1⟩) (by rw [h1]; decide) (by rw [h3, h5]) (by rw [h2, alive_num]; decide) h4
  rw [h6, h2, alive_num]
  rfl
theorem alive_asc : asc aliveS := by unfold asc aliveS; decide
set_option maxRecDepth 20000 in
theorem law04_alive (I : List Nat) (ea : Nat → Addr) (W : World) (hG : LibW W) (hE : Errs I ea W) (h3 : I.contains 3 = true) : Ret Tryz.prog 14 #[] W fun v W' => v = .bool true ∧ Own W noX [] W' := by
  refine enter Tryz.func14 rfl (n := 16) rfl (by kernel_rfl) (E0 := []) (by kernel_rfl) ?_
  intro a hF; have hO := Own.start W noX
  refine wp_seq_k fun K1 hK1 => ?_
  refine wp_region_lit ?_
  refine L_val hF (by kernel_rfl) (by kernel_rfl) (v := .bool false) (by kernel_rfl) (by kernel_rfl) ?_
  clear hF; intro a hF
  refine L_nil ?_
  refine hK1 _ _ ?_
  refine wp_seq_k fun K2 hK2 => ?_
  refine wp_region_lit ?_
  refine L_call hF (by kernel_rfl) (by kernel_rfl) (by kernel_rfl) (by kernel_rfl) ((ports_Parse I ea aliveS W (hG.own hO) (hE.own hO) h3 (by decide) alive_asc).mono fun v W' h => (⟨by rw [h.1, alive_parse]; rfl, h.2⟩ : v = .tuple #[ptV alivePt, .nilIface] ∧ Own W noX [] W')) ?_
  clear hF; rintro _ W1 a ⟨rfl, hk⟩ hF
  replace hO := hO.call0 hk; clear hk
  refine L_val hF (by kernel_rfl) (by kernel_rfl) (v := .tuple #[ptV alivePt, .nilIface]) (by kernel_rfl) (by kernel_rfl) ?_
  clear hF; intro a hF
  refine L_val hF (by kernel_rfl) (by kernel_rfl) (v := ptV alivePt) (by kernel_rfl) (by kernel_rfl) ?_
  clear hF; intro a hF
  refine L_val hF (by kernel_rfl) (by kernel_rfl) (v := .nilIface) (by kernel_rfl) (by kernel_rfl) ?_
  clear hF; intro a hF
  refine L_new hF hO (by kernel_rfl) (by kernel_rfl) (vf := fun b => .pointer (some ⟨b, 0, none⟩)) (ob := .cells #[.bool false, .int .u8 0, .int .u8 0, .int .u8 0, .int .u8 0, .int .u8 0, .int .u8 0, .int .u8 0, .int .u8 0, .int .u8 0, .int .u8 0, .int .u8 0, .int .u8 0, .int .u8 0, .int .u8 0, .int .u8 0, .int .u8 0, .int .i64 0] 45) (by kernel_rfl) (by kernel_rfl) ?_
  clear hF hO; intro b1 W2 a hO hF
  obtain ⟨W3, hst, hO1⟩ := run_storeAt (P := Tryz.prog) (k := 18) (T := 45) (off := 0) (v := ptV alivePt) (cs := #[.bool false, .int .u8 0, .int .u8 0, .int .u8 0, .int .u8 0, .int .u8 0, .int .u8 0, .int .u8 0, .int .u8 0, .int .u8 0, .int .u8 0, .int .u8 0, .int .u8 0, .int .u8 0, .int .u8 0, .int .u8 0, .int .u8 0, .int .i64 0]) (cs' := #[.bool alivePt.ip.six, .int .u8 ((alivePt.ip.b0.toNat : Int)), .int .u8 ((alivePt.ip.b1.toNat : Int)), .int .u8 ((alivePt.ip.b2.toNat : Int)), .int .u8 ((alivePt.ip.b3.toNat : Int)), .int .u8 ((alivePt.ip.b4.toNat : Int)), .int .u8 ((alivePt.ip.b5.toNat : Int)), .int .u8 ((alivePt.ip.b6.toNat : Int)), .int .u8 ((alivePt.ip.b7.toNat : Int)), .int .u8 ((alivePt.ip.b8.toNat : Int)), .int .u8 ((alivePt.ip.b9.toNat : Int)), .int .u8 ((alivePt.ip.b10.toNat : Int)), .int .u8 ((alivePt.ip.b11.toNat : Int)), .int .u8 ((alivePt.ip.b12.toNat : Int)), .int .u8 ((alivePt.ip.b13.toNat : Int)), .int .u8 ((alivePt.ip.b14.toNat : Int)), .int .u8 ((alivePt.ip.b15.toNat : Int)), .int .i64 (alivePt.port)]) hO (by kernel_rfl) (by kernel_rfl) (by kernel_rfl) (Nat.le_of_ble_eq_true (by kernel_rfl)) (by kernel_rfl) (.head _)
  refine L_skip hF (by kernel_rfl) (by kernel_rfl) (x_store (p := .pointer (some ⟨b1, 0, none⟩)) (v := ptV alivePt) rfl (by kernel_rfl) (by kernel_rfl) hst) (by kernel_rfl) ?_
  clear hst hF; intro a hF; replace hO := hO1; clear hO1
  refine L_val hF (by kernel_rfl) (by kernel_rfl) (v := .nilIface) (by kernel_rfl) (by kernel_rfl) ?_
  clear hF; intro a hF
  refine L_nil ?_
  refine hK2 _ _ ?_
  refine wp_seq_k fun K3 hK3 => ?_
  refine wp_region_lit ?_
  refine L_val hF (by kernel_rfl) (by kernel_rfl) (v := .nilIface) (by kernel_rfl) (by kernel_rfl) ?_
  clear hF; intro a hF
  refine L_val hF (by kernel_rfl) (by kernel_rfl) (v := .bool true) (by kernel_rfl) (by kernel_rfl) ?_
  clear hF; intro a hF
  refine L_val hF (by kernel_rfl) (by kernel_rfl) (v := .bool true) (by kernel_rfl) (by kernel_rfl) ?_
  clear hF; intro a hF
  refine L_val hF (by kernel_rfl) (by kernel_rfl) (v := .agg #[.bool alivePt.ip.six, .int .u8 ((alivePt.ip.b0.toNat : Int)), .int .u8 ((alivePt.ip.b1.toNat : Int)), .int .u8 ((alivePt.ip.b2.toNat : Int)), .int .u8 ((alivePt.ip.b3.toNat : Int)), .int .u8 ((alivePt.ip.b4.toNat : Int)), .int .u8 ((alivePt.ip.b5.toNat : Int)), .int .u8 ((alivePt.ip.b6.toNat : Int)), .int .u8 ((alivePt.ip.b7.toNat : Int)), .int .u8 ((alivePt.ip.b8.toNat : Int)), .int .u8 ((alivePt.ip.b9.toNat : Int)), .int .u8 ((alivePt.ip.b10.toNat : Int)), .int .u8 ((alivePt.ip.b11.toNat : Int)), .int .u8 ((alivePt.ip.b12.toNat : Int)), .int .u8 ((alivePt.ip.b13.toNat : Int)), .int .u8 ((alivePt.ip.b14.toNat : Int)), .int .u8 ((alivePt.ip.b15.toNat : Int)), .int .i64 (alivePt.port)]) (x_load (p := .pointer (some ⟨b1, 0, none⟩)) rfl (by kernel_rfl) (run_loadA (k := 18) (by kernel_rfl) (by kernel_rfl) (hO.blk List.mem_cons_self) (by kernel_rfl) (by kernel_rfl))) (by kernel_rfl) ?_
  clear hF; intro a hF
  refine L_val hF (by kernel_rfl) (by kernel_rfl) (v := .agg #[.int .u8 0, .int .u8 0, .int .u8 0, .int .u8 0, .int .u8 0, .int .u8 0, .int .u8 0, .int .u8 0, .int .u8 0, .int .u8 0, .int .u8 0, .int .u8 0, .int .u8 0, .int .u8 0, .int .u8 0, .int .u8 1]) (by kernel_rfl) (by kernel_rfl) ?_
  clear hF; intro a hF
  refine L_val hF (by kernel_rfl) (by kernel_rfl) (v := .agg #[.bool true, .int .u8 0, .int .u8 0, .int .u8 0, .int .u8 0, .int .u8 0, .int .u8 0, .int .u8 0, .int .u8 0, .int .u8 0, .int .u8 0, .int .u8 0, .int .u8 0, .int .u8 0, .int .u8 0, .int .u8 0, .int .u8 1]) (by kernel_rfl) (by kernel_rfl) ?_
  clear hF; intro a hF
  refine L_val hF (by kernel_rfl) (by kernel_rfl) (v := .agg #[.bool true, .int .u8 0, .int .u8 0, .int .u8 0, .int .u8 0, .int .u8 0, .int .u8 0, .int .u8 0, .int .u8 0, .int .u8 0, .int .u8 0, .int .u8 0, .int .u8 0, .int .u8 0, .int .u8 0, .int .u8 0, .int .u8 1, .int .i64 80]) (by kernel_rfl) (by kernel_rfl) ?_
  clear hF; intro a hF
  refine L_val hF (by kernel_rfl) (by kernel_rfl) (v := .bool true) (x_bool (x := decide (alivePt = alivePt)) (decide_eq_true rfl) (x_eqPt (a := alivePt) (b := alivePt) rfl (by kernel_rfl) (by kernel_rfl))) (by kernel_rfl) ?_
  clear hF; intro a hF
  refine L_val hF (by kernel_rfl) (by kernel_rfl) (v := .bool true) (by kernel_rfl) (by kernel_rfl) ?_
  clear hF; intro a hF
  refine L_val hF (by kernel_rfl) (by kernel_rfl) (v := .bool true) (by kernel_rfl) (by kernel_rfl) ?_
  clear hF; intro a hF
  refine L_nil ?_
  refine hK3 _ _ ?_
  refine wp_ret ?_
  -- way 1: 
  refine ret1 hF (v := .bool true) rfl (resT (by kernel_rfl)) (by refine ⟨?_, hO.nil⟩; first | rfl | (simp [*]; done)) .ret (.inl rfl)

set_option maxRecDepth 20000 in
theorem law04_PortsWords00 (I : List Nat) (ea : Nat → Addr) (n : Int) (W : World) (hG : LibW W) (hE : Errs I ea W) (h3 : I.contains 3 = true) (h16 : I.contains 16 = true) (hI : I = errIs) (h6 : n = 6) : Ret Tryz.prog 3 #[.int .i64 (n), .string (⟨#[116, 99, 112]⟩ : ByteArray)] W fun v W' => v = .bool true ∧ Own W noX [] W' := by
  refine enter Tryz.func3 rfl (n := 57) rfl (by kernel_rfl) (E0 := [(1, .string (⟨#[116, 99, 112]⟩ : ByteArray)), (0, .int .i64 (n))]) (by kernel_rfl) ?_
  intro a hF; have hO := Own.start W noX
  refine wp_seq_k fun K1 hK1 => ?_
  refine wp_region_lit ?_
  refine L_val hF (by kernel_rfl) (by kernel_rfl) (v := .bool false) (by kernel_rfl) (by kernel_rfl) ?_
  clear hF; intro a hF
  refine L_nil ?_
  refine hK1 _ _ ?_
  refine wp_seq_k fun K2 hK2 => ?_
  refine wp_seq_k fun K3 hK3 => ?_
  refine wp_region_lit ?_
  refine L_call hF (by kernel_rfl) (by kernel_rfl) (by kernel_rfl) (by kernel_rfl) (law04_alive I ea W (hG.own hO) (hE.own hO) h3) ?_
  clear hF; rintro _ W1 a ⟨rfl, hk⟩ hF
  replace hO := hO.call0 hk; clear hk
  refine L_val hF (by kernel_rfl) (by kernel_rfl) (v := .bool false) (by kernel_rfl) (by kernel_rfl) ?_
  clear hF; intro a hF
  refine L_nil ?_
  refine hK3 _ _ ?_
  refine cond_f hF (by kernel_rfl) (by kernel_rfl) ?_
  refine wp_skip ?_
  refine hK2 _ _ ?_
  refine wp_seq_k fun K4 hK4 => ?_
  refine wp_seq_k fun K5 hK5 => ?_
  refine wp_region_lit ?_
  refine L_val hF (by kernel_rfl) (by kernel_rfl) (v := .string (⟨#[116, 99, 112]⟩ : ByteArray)) (by kernel_rfl) (by kernel_rfl) ?_
  clear hF; intro a hF
  refine L_val hF (by kernel_rfl) (by kernel_rfl) (v := .int .i64 3) (by kernel_rfl) (by kernel_rfl) ?_
  clear hF; intro a hF
  refine L_val hF (by kernel_rfl) (by kernel_rfl) (v := .bool false) (by kernel_rfl) (by kernel_rfl) ?_
  clear hF; intro a hF
  refine L_nil ?_
  refine hK5 _ _ ?_
  refine cond_f hF (by kernel_rfl) (by kernel_rfl) ?_
  refine wp_skip ?_
  refine hK4 _ _ ?_
  refine wp_seq_k fun K6 hK6 => ?_
  refine wp_region_lit ?_
  refine L_val hF (by kernel_rfl) (by kernel_rfl) (v := .string (⟨#[]⟩ : ByteArray)) (by kernel_rfl) (by kernel_rfl) ?_
  clear hF; intro a hF
  refine L_nil ?_
  refine hK6 _ _ ?_
  refine wp_seq_k fun K7 hK7 => ?_
  refine wp_seq_k fun K8 hK8 => ?_
  refine wp_region_lit ?_
  refine L_val hF (by kernel_rfl) (by kernel_rfl) (v := .int .i64 (n)) (by kernel_rfl) (by kernel_rfl) ?_
  clear hF; intro a hF
  refine L_val hF (by kernel_rfl) (by kernel_rfl) (v := .bool (n == 6)) (by kernel_rfl) (by kernel_rfl) ?_
  clear hF; intro a hF
  refine L_nil ?_
  refine hK8 _ _ ?_
  replace hF := hF.know (d := 16) (v' := .bool true) (by kernel_rfl) (congrArg Value.bool (eqT h6))
  refine cond_t hF (by kernel_rfl) (by kernel_rfl) ?_
  refine wp_region_lit ?_
  refine L_val hF (by kernel_rfl) (by kernel_rfl) (v := .string (⟨#[116, 99, 112]⟩ : ByteArray)) (by kernel_rfl) (by kernel_rfl) ?_
  clear hF; intro a hF
  refine L_nil ?_
  refine hK7 _ _ ?_
  refine wp_seq_k fun K9 hK9 => ?_
  refine wp_seq_k fun K10 hK10 => ?_
  refine wp_region_lit ?_
  refine L_val hF (by kernel_rfl) (by kernel_rfl) (v := .int .i64 (n)) (by kernel_rfl) (by kernel_rfl) ?_
  clear hF; intro a hF
  refine L_val hF (by kernel_rfl) (by kernel_rfl) (v := .bool (n == 17)) (by kernel_rfl) (by kernel_rfl) ?_
  clear hF; intro a hF
  refine L_nil ?_
  refine hK10 _ _ ?_
  by_cases q1 : n = 17
  ·
    replace hF := hF.know (d := 18) (v' := .bool true) (by kernel_rfl) (congrArg Value.bool (eqT q1))
    refine cond_t hF (by kernel_rfl) (by kernel_rfl) ?_
    refine wp_region_lit ?_
    refine L_val hF (by kernel_rfl) (by kernel_rfl) (v := .string (⟨#[117, 100, 112]⟩ : ByteArray)) (by kernel_rfl) (by kernel_rfl) ?_
    clear hF; intro a hF
    refine L_nil ?_
    refine hK9 _ _ ?_
    refine wp_seq_k fun K11 hK11 => ?_
    refine wp_region_lit ?_
    refine L_val hF (by kernel_rfl) (by kernel_rfl) (v := .string (⟨#[116, 99, 112]⟩ : ByteArray)) (by kernel_rfl) (by kernel_rfl) ?_
    clear hF; intro a hF
    refine L_call hF (by kernel_rfl) (by kernel_rfl) (by kernel_rfl) (by kernel_rfl) (ports_Named0 W1) ?_
    clear hF; rintro _ W2 a ⟨rfl, hk⟩ hF
    replace hO := hO.call0 hk; clear hk
    refine L_val hF (by kernel_rfl) (by kernel_rfl) (v := .tuple #[.int .i64 6, .nilIface]) (by kernel_rfl) (by kernel_rfl) ?_
    clear hF; intro a hF
    refine L_val hF (by kernel_rfl) (by kernel_rfl) (v := .int .i64 6) (by kernel_rfl) (by kernel_rfl) ?_
    clear hF; intro a hF
    refine L_val hF (by kernel_rfl) (by kernel_rfl) (v := .nilIface) (by kernel_rfl) (by kernel_rfl) ?_
    clear hF; intro a hF
    refine L_val hF (by kernel_rfl) (by kernel_rfl) (v := .int .i64 6) (by kernel_rfl) (by kernel_rfl) ?_
    clear hF; intro a hF
    refine L_val hF (by kernel_rfl) (by kernel_rfl) (v := .nilIface) (by kernel_rfl) (by kernel_rfl) ?_
    clear hF; intro a hF
    refine L_nil ?_
    refine hK11 _ _ ?_
    refine wp_seq_k fun K12 hK12 => ?_
    refine wp_region_lit ?_
    refine L_val hF (by kernel_rfl) (by kernel_rfl) (v := .int .i64 0) (by kernel_rfl) (by kernel_rfl) ?_
    clear hF; intro a hF
    refine L_val hF (by kernel_rfl) (by kernel_rfl) (v := .int .i64 17) (by kernel_rfl) (by kernel_rfl) ?_
    clear hF; intro a hF
    refine L_nil ?_
    refine hK12 _ _ ?_
    refine wp_seq_k fun K13 hK13 => ?_
    refine wp_seq_k fun K14 hK14 => ?_
    refine wp_region_lit ?_
    refine L_val hF (by kernel_rfl) (by kernel_rfl) (v := .string (⟨#[116, 99, 112]⟩ : ByteArray)) (by kernel_rfl) (by kernel_rfl) ?_
    clear hF; intro a hF
    refine L_val hF (by kernel_rfl) (by kernel_rfl) (v := .bool true) (x_bool (x := strEq (⟨#[116, 99, 112]⟩ : ByteArray) (⟨#[116, 99, 112]⟩ : ByteArray)) (strEq_refl _) (by kernel_rfl)) (by kernel_rfl) ?_
    clear hF; intro a hF
    refine L_nil ?_
    refine hK14 _ _ ?_
    refine cond_t hF (by kernel_rfl) (by kernel_rfl) ?_
    refine wp_region_lit ?_
    refine L_val hF (by kernel_rfl) (by kernel_rfl) (v := .int .i64 6) (by kernel_rfl) (by kernel_rfl) ?_
    clear hF; intro a hF
    refine L_val hF (by kernel_rfl) (by kernel_rfl) (v := .int .i64 0) (by kernel_rfl) (by kernel_rfl) ?_
    clear hF; intro a hF
    refine L_nil ?_
    refine hK13 _ _ ?_
    refine wp_seq_k fun K15 hK15 => ?_
    refine wp_seq_k fun K16 hK16 => ?_
    refine wp_region_lit ?_
    refine L_val hF (by kernel_rfl) (by kernel_rfl) (v := .string (⟨#[116, 99, 112]⟩ : ByteArray)) (by kernel_rfl) (by kernel_rfl) ?_
    clear hF; intro a hF
    refine L_val hF (by kernel_rfl) (by kernel_rfl) (v := .bool false) (by kernel_rfl) (by kernel_rfl) ?_
    clear hF; intro a hF
    refine L_nil ?_
    refine hK16 _ _ ?_
    refine cond_f hF (by kernel_rfl) (by kernel_rfl) ?_
    refine wp_skip ?_
    refine hK15 _ _ ?_
    refine wp_seq_k fun K17 hK17 => ?_
    refine wp_region_lit ?_
    refine L_val hF (by kernel_rfl) (by kernel_rfl) (v := .int .i64 (n)) (by kernel_rfl) (by kernel_rfl) ?_
    clear hF; intro a hF
    refine L_call hF (by kernel_rfl) (by kernel_rfl) (by kernel_rfl) (by kernel_rfl) (ports_Right n W2) ?_
    clear hF; rintro _ W3 a ⟨rfl, hk⟩ hF
    replace hO := hO.call0 hk; clear hk
    refine L_val hF (by kernel_rfl) (by kernel_rfl) (v := .int .i64 (n)) (by kernel_rfl) (by kernel_rfl) ?_
    clear hF; intro a hF
    refine L_call hF (by kernel_rfl) (by kernel_rfl) (by kernel_rfl) (by kernel_rfl) (ref04_Right n W3) ?_
    clear hF; rintro _ W4 a ⟨rfl, hk⟩ hF
    replace hO := hO.call0 hk; clear hk
    refine L_val hF (by kernel_rfl) (by kernel_rfl) (v := .bool true) (x_bool (x := (decide (1 ≤ n ∧ n ≤ 65535)) == (decide (1 ≤ n ∧ n ≤ 65535))) (beq_self_eq_true _) (by kernel_rfl)) (by kernel_rfl) ?_
    clear hF; intro a hF
    refine L_val hF (by kernel_rfl) (by kernel_rfl) (v := .bool true) (by kernel_rfl) (by kernel_rfl) ?_
    clear hF; intro a hF
    refine L_val hF (by kernel_rfl) (by kernel_rfl) (v := .int .i64 (n)) (by kernel_rfl) (by kernel_rfl) ?_
    clear hF; intro a hF
    refine L_call hF (by kernel_rfl) (by kernel_rfl) (by kernel_rfl) (by kernel_rfl) (ports_Proto n W4) ?_
    clear hF; rintro _ W5 a ⟨rfl, hk⟩ hF
    replace hO := hO.call0 hk; clear hk
    refine L_val hF (by kernel_rfl) (by kernel_rfl) (v := .int .i64 (n)) (by kernel_rfl) (by kernel_rfl) ?_
    clear hF; intro a hF
    refine L_call hF (by kernel_rfl) (by kernel_rfl) (by kernel_rfl) (by kernel_rfl) (ref04_Proto n W5) ?_
    clear hF; rintro _ W6 a ⟨rfl, hk⟩ hF
    replace hO := hO.call0 hk; clear hk
    refine L_val hF (by kernel_rfl) (by kernel_rfl) (v := .bool true) (x_bool (x := (decide (n = 6 ∨ n = 17)) == (decide (n = 6 ∨ n = 17))) (beq_self_eq_true _) (by kernel_rfl)) (by kernel_rfl) ?_
    clear hF; intro a hF
    refine L_val hF (by kernel_rfl) (by kernel_rfl) (v := .bool true) (by kernel_rfl) (by kernel_rfl) ?_
    clear hF; intro a hF
    refine L_val hF (by kernel_rfl) (by kernel_rfl) (v := .bool true) (by kernel_rfl) (by kernel_rfl) ?_
    clear hF; intro a hF
    refine L_val hF (by kernel_rfl) (by kernel_rfl) (v := .int .i64 (n)) (by kernel_rfl) (by kernel_rfl) ?_
    clear hF; intro a hF
    refine L_call hF (by kernel_rfl) (by kernel_rfl) (by kernel_rfl) (by kernel_rfl) ((ports_Word n W6).mono fun v W' h => (⟨by rw [h.1, if_pos h6], h.2⟩ : v = .string ⟨#[116, 99, 112]⟩ ∧ Own W6 noX [] W')) ?_
    clear hF; rintro _ W7 a ⟨rfl, hk⟩ hF
    replace hO := hO.call0 hk; clear hk
    refine L_val hF (by kernel_rfl) (by kernel_rfl) (v := .string (⟨#[117, 100, 112]⟩ : ByteArray)) (by kernel_rfl) (by kernel_rfl) ?_
    clear hF; intro a hF
    refine L_val hF (by kernel_rfl) (by kernel_rfl) (v := .bool false) (by kernel_rfl) (by kernel_rfl) ?_
    clear hF; intro a hF
    refine L_val hF (by kernel_rfl) (by kernel_rfl) (v := .bool false) (by kernel_rfl) (by kernel_rfl) ?_
    clear hF; intro a hF
    refine L_val hF (by kernel_rfl) (by kernel_rfl) (v := .bool false) (by kernel_rfl) (by kernel_rfl) ?_
    clear hF; intro a hF
    refine L_off hF (by kernel_rfl) (by kernel_rfl) ?_
    clear hF; intro a hF
    refine L_off hF (by kernel_rfl) (by kernel_rfl) ?_
    clear hF; intro a hF
    refine L_off hF (by kernel_rfl) (by kernel_rfl) ?_
    clear hF; intro a hF
    refine L_val hF (by kernel_rfl) (by kernel_rfl) (v := .bool false) (by kernel_rfl) (by kernel_rfl) ?_
    clear hF; intro a hF
    refine L_val hF (by kernel_rfl) (by kernel_rfl) (v := .bool false) (by kernel_rfl) (by kernel_rfl) ?_
    clear hF; intro a hF
    refine L_off hF (by kernel_rfl) (by kernel_rfl) ?_
    clear hF; intro a hF
    refine L_off hF (by kernel_rfl) (by kernel_rfl) ?_
    clear hF; intro a hF
    refine L_off hF (by kernel_rfl) (by kernel_rfl) ?_
    clear hF; intro a hF
    refine L_off hF (by kernel_rfl) (by kernel_rfl) ?_
    clear hF; intro a hF
    refine L_val hF (by kernel_rfl) (by kernel_rfl) (v := .bool false) (by kernel_rfl) (by kernel_rfl) ?_
    clear hF; intro a hF
    refine L_val hF (by kernel_rfl) (by kernel_rfl) (v := .bool false) (by kernel_rfl) (by kernel_rfl) ?_
    clear hF; intro a hF
    refine L_nil ?_
    refine hK17 _ _ ?_
    refine wp_ret ?_
    -- way 1: n = 6; n = 17
    refine ret1 hF (v := .bool false) rfl (resT (by kernel_rfl)) (by refine ⟨?_, hO.nil⟩; first | rfl | (exfalso; omega)) .ret (.inl rfl)
  ·
    replace hF := hF.know (d := 18) (v' := .bool false) (by kernel_rfl) (congrArg Value.bool (eqF q1))
    refine cond_f hF (by kernel_rfl) (by kernel_rfl) ?_
    refine wp_skip ?_
    refine hK9 _ _ ?_
    refine wp_seq_k fun K18 hK18 => ?_
    refine wp_region_lit ?_
    refine L_val hF (by kernel_rfl) (by kernel_rfl) (v := .string (⟨#[116, 99, 112]⟩ : ByteArray)) (by kernel_rfl) (by kernel_rfl) ?_
    clear hF; intro a hF
    refine L_call hF (by kernel_rfl) (by kernel_rfl) (by kernel_rfl) (by kernel_rfl) (ports_Named0 W1) ?_
    clear hF; rintro _ W8 a ⟨rfl, hk⟩ hF
    replace hO := hO.call0 hk; clear hk
    refine L_val hF (by kernel_rfl) (by kernel_rfl) (v := .tuple #[.int .i64 6, .nilIface]) (by kernel_rfl) (by kernel_rfl) ?_
    clear hF; intro a hF
    refine L_val hF (by kernel_rfl) (by kernel_rfl) (v := .int .i64 6) (by kernel_rfl) (by kernel_rfl) ?_
    clear hF; intro a hF
    refine L_val hF (by kernel_rfl) (by kernel_rfl) (v := .nilIface) (by kernel_rfl) (by kernel_rfl) ?_
    clear hF; intro a hF
    refine L_val hF (by kernel_rfl) (by kernel_rfl) (v := .int .i64 6) (by kernel_rfl) (by kernel_rfl) ?_
    clear hF; intro a hF
    refine L_val hF (by kernel_rfl) (by kernel_rfl) (v := .nilIface) (by kernel_rfl) (by kernel_rfl) ?_
    clear hF; intro a hF
    refine L_nil ?_
    refine hK18 _ _ ?_
    refine wp_seq_k fun K19 hK19 => ?_
    refine wp_region_lit ?_
    refine L_val hF (by kernel_rfl) (by kernel_rfl) (v := .int .i64 0) (by kernel_rfl) (by kernel_rfl) ?_
    clear hF; intro a hF
    refine L_val hF (by kernel_rfl) (by kernel_rfl) (v := .int .i64 17) (by kernel_rfl) (by kernel_rfl) ?_
    clear hF; intro a hF
    refine L_nil ?_
    refine hK19 _ _ ?_
    refine wp_seq_k fun K20 hK20 => ?_
    refine wp_seq_k fun K21 hK21 => ?_
    refine wp_region_lit ?_
    refine L_val hF (by kernel_rfl) (by kernel_rfl) (v := .string (⟨#[116, 99, 112]⟩ : ByteArray)) (by kernel_rfl) (by kernel_rfl) ?_
    clear hF; intro a hF
    refine L_val hF (by kernel_rfl) (by kernel_rfl) (v := .bool true) (x_bool (x := strEq (⟨#[116, 99, 112]⟩ : ByteArray) (⟨#[116, 99, 112]⟩ : ByteArray)) (strEq_refl _) (by kernel_rfl)) (by kernel_rfl) ?_
    clear hF; intro a hF
    refine L_nil ?_
    refine hK21 _ _ ?_
    refine cond_t hF (by kernel_rfl) (by kernel_rfl) ?_
    refine wp_region_lit ?_
    refine L_val hF (by kernel_rfl) (by kernel_rfl) (v := .int .i64 6) (by kernel_rfl) (by kernel_rfl) ?_
    clear hF; intro a hF
    refine L_val hF (by kernel_rfl) (by kernel_rfl) (v := .int .i64 0) (by kernel_rfl) (by kernel_rfl) ?_
    clear hF; intro a hF
    refine L_nil ?_
    refine hK20 _ _ ?_
    refine wp_seq_k fun K22 hK22 => ?_
    refine wp_seq_k fun K23 hK23 => ?_
    refine wp_region_lit ?_
    refine L_val hF (by kernel_rfl) (by kernel_rfl) (v := .string (⟨#[116, 99, 112]⟩ : ByteArray)) (by kernel_rfl) (by kernel_rfl) ?_
    clear hF; intro a hF
    refine L_val hF (by kernel_rfl) (by kernel_rfl) (v := .bool false) (by kernel_rfl) (by kernel_rfl) ?_
    clear hF; intro a hF
    refine L_nil ?_
    refine hK23 _ _ ?_
    refine cond_f hF (by kernel_rfl) (by kernel_rfl) ?_
    refine wp_skip ?_
    refine hK22 _ _ ?_
    refine wp_seq_k fun K24 hK24 => ?_
    refine wp_region_lit ?_
    refine L_val hF (by kernel_rfl) (by kernel_rfl) (v := .int .i64 (n)) (by kernel_rfl) (by kernel_rfl) ?_
    clear hF; intro a hF
    refine L_call hF (by kernel_rfl) (by kernel_rfl) (by kernel_rfl) (by kernel_rfl) (ports_Right n W8) ?_
    clear hF; rintro _ W9 a ⟨rfl, hk⟩ hF
    replace hO := hO.call0 hk; clear hk
    refine L_val hF (by kernel_rfl) (by kernel_rfl) (v := .int .i64 (n)) (by kernel_rfl) (by kernel_rfl) ?_
    clear hF; intro a hF
    refine L_call hF (by kernel_rfl) (by kernel_rfl) (by kernel_rfl) (by kernel_rfl) (ref04_Right n W9) ?_
    clear hF; rintro _ W10 a ⟨rfl, hk⟩ hF
    replace hO := hO.call0 hk; clear hk
    refine L_val hF (by kernel_rfl) (by kernel_rfl) (v := .bool true) (x_bool (x := (decide (1 ≤ n ∧ n ≤ 65535)) == (decide (1 ≤ n ∧ n ≤ 65535))) (beq_self_eq_true _) (by kernel_rfl)) (by kernel_rfl) ?_
    clear hF; intro a hF
    refine L_val hF (by kernel_rfl) (by kernel_rfl) (v := .bool true) (by kernel_rfl) (by kernel_rfl) ?_
    clear hF; intro a hF
    refine L_val hF (by kernel_rfl) (by kernel_rfl) (v := .int .i64 (n)) (by kernel_rfl) (by kernel_rfl) ?_
    clear hF; intro a hF
    refine L_call hF (by kernel_rfl) (by kernel_rfl) (by kernel_rfl) (by kernel_rfl) (ports_Proto n W10) ?_
    clear hF; rintro _ W11 a ⟨rfl, hk⟩ hF
    replace hO := hO.call0 hk; clear hk
    refine L_val hF (by kernel_rfl) (by kernel_rfl) (v := .int .i64 (n)) (by kernel_rfl) (by kernel_rfl) ?_
    clear hF; intro a hF
    refine L_call hF (by kernel_rfl) (by kernel_rfl) (by kernel_rfl) (by kernel_rfl) (ref04_Proto n W11) ?_
    clear hF; rintro _ W12 a ⟨rfl, hk⟩ hF
    replace hO := hO.call0 hk; clear hk
    refine L_val hF (by kernel_rfl) (by kernel_rfl) (v := .bool true) (x_bool (x := (decide (n = 6 ∨ n = 17)) == (decide (n = 6 ∨ n = 17))) (beq_self_eq_true _) (by kernel_rfl)) (by kernel_rfl) ?_
    clear hF; intro a hF
    refine L_val hF (by kernel_rfl) (by kernel_rfl) (v := .bool true) (by kernel_rfl) (by kernel_rfl) ?_
    clear hF; intro a hF
    refine L_val hF (by kernel_rfl) (by kernel_rfl) (v := .bool true) (by kernel_rfl) (by kernel_rfl) ?_
    clear hF; intro a hF
    refine L_val hF (by kernel_rfl) (by kernel_rfl) (v := .int .i64 (n)) (by kernel_rfl) (by kernel_rfl) ?_
    clear hF; intro a hF
    refine L_call hF (by kernel_rfl) (by kernel_rfl) (by kernel_rfl) (by kernel_rfl) ((ports_Word n W12).mono fun v W' h => (⟨by rw [h.1, if_pos h6], h.2⟩ : v = .string ⟨#[116, 99, 112]⟩ ∧ Own W12 noX [] W')) ?_
    clear hF; rintro _ W13 a ⟨rfl, hk⟩ hF
    replace hO := hO.call0 hk; clear hk
    refine L_val hF (by kernel_rfl) (by kernel_rfl) (v := .string (⟨#[116, 99, 112]⟩ : ByteArray)) (by kernel_rfl) (by kernel_rfl) ?_
    clear hF; intro a hF
    refine L_val hF (by kernel_rfl) (by kernel_rfl) (v := .bool true) (x_bool (x := strEq (⟨#[116, 99, 112]⟩ : ByteArray) (⟨#[116, 99, 112]⟩ : ByteArray)) (strEq_refl _) (by kernel_rfl)) (by kernel_rfl) ?_
    clear hF; intro a hF
    refine L_val hF (by kernel_rfl) (by kernel_rfl) (v := .bool true) (by kernel_rfl) (by kernel_rfl) ?_
    clear hF; intro a hF
    refine L_val hF (by kernel_rfl) (by kernel_rfl) (v := .bool true) (by kernel_rfl) (by kernel_rfl) ?_
    clear hF; intro a hF
    refine L_val hF (by kernel_rfl) (by kernel_rfl) (v := .int .i64 6) (by kernel_rfl) (by kernel_rfl) ?_
    clear hF; intro a hF
    refine L_val hF (by kernel_rfl) (by kernel_rfl) (v := .int .i64 6) (by kernel_rfl) (by kernel_rfl) ?_
    clear hF; intro a hF
    refine L_val hF (by kernel_rfl) (by kernel_rfl) (v := .bool true) (by kernel_rfl) (by kernel_rfl) ?_
    clear hF; intro a hF
    refine L_val hF (by kernel_rfl) (by kernel_rfl) (v := .bool true) (by kernel_rfl) (by kernel_rfl) ?_
    clear hF; intro a hF
    refine L_val hF (by kernel_rfl) (by kernel_rfl) (v := .bool true) (by kernel_rfl) (by kernel_rfl) ?_
    clear hF; intro a hF
    refine L_val hF (by kernel_rfl) (by kernel_rfl) (v := .nilIface) (by kernel_rfl) (by kernel_rfl) ?_
    clear hF; intro a hF
    refine L_call hF (by kernel_rfl) (by kernel_rfl) (by kernel_rfl) (by kernel_rfl) (num_nil W13) ?_
    clear hF; rintro _ W14 a ⟨rfl, hk⟩ hF
    replace hO := hO.call0 hk; clear hk
    refine L_val hF (by kernel_rfl) (by kernel_rfl) (v := .int .i64 0) (by kernel_rfl) (by kernel_rfl) ?_
    clear hF; intro a hF
    refine L_val hF (by kernel_rfl) (by kernel_rfl) (v := .bool true) (by kernel_rfl) (by kernel_rfl) ?_
    clear hF; intro a hF
    refine L_val hF (by kernel_rfl) (by kernel_rfl) (v := .bool true) (by kernel_rfl) (by kernel_rfl) ?_
    clear hF; intro a hF
    refine L_val hF (by kernel_rfl) (by kernel_rfl) (v := .bool true) (by kernel_rfl) (by kernel_rfl) ?_
    clear hF; intro a hF
    refine L_nil ?_
    refine hK24 _ _ ?_
    refine wp_ret ?_
    -- way 2: n = 6; ¬ n = 17
    refine ret1 hF (v := .bool true) rfl (resT (by kernel_rfl)) (by refine ⟨?_, hO.nil⟩; first | rfl | (exfalso; omega)) .ret (.inl rfl)

set_option maxRecDepth 20000 in
theorem law04_PortsWords01 (I : List Nat) (ea : Nat → Addr) (n : Int) (W : World) (hG : LibW W) (hE : Errs I ea W) (h3 : I.contains 3 = true) (h16 : I.contains 16 = true) (hI : I = errIs) (h6 : ¬ n = 6) (h17 : n = 17) : Ret Tryz.prog 3 #[.int .i64 (n), .string (⟨#[116, 99, 112]⟩ : ByteArray)] W fun v W' => v = .bool true ∧ Own W noX [] W' := by
  refine enter Tryz.func3 rfl (n := 57) rfl (by kernel_rfl) (E0 := [(1, .string (⟨#[116, 99, 112]⟩ : ByteArray)), (0, .int .i64 (n))]) (by kernel_rfl) ?_
  intro a hF; have hO := Own.start W noX
  refine wp_seq_k fun K1 hK1 => ?_
  refine wp_region_lit ?_
  refine L_val hF (by kernel_rfl) (by kernel_rfl) (v := .bool false) (by kernel_rfl) (by kernel_rfl) ?_
  clear hF; intro a hF
  refine L_nil ?_
  refine hK1 _ _ ?_
  refine wp_seq_k fun K2 hK2 => ?_
  refine wp_seq_k fun K3 hK3 => ?_
  refine wp_region_lit ?_
  refine L_call hF (by kernel_rfl) (by kernel_rfl) (by kernel_rfl) (by kernel_rfl) (law04_alive I ea W (hG.own hO) (hE.own hO) h3) ?_
  clear hF; rintro _ W1 a ⟨rfl, hk⟩ hF
  replace hO := hO.call0 hk; clear hk
  refine L_val hF (by kernel_rfl) (by kernel_rfl) (v := .bool false) (by kernel_rfl) (by kernel_rfl) ?_
  clear hF; intro a hF
  refine L_nil ?_
  refine hK3 _ _ ?_
  refine cond_f hF (by kernel_rfl) (by kernel_rfl) ?_
  refine wp_skip ?_
  refine hK2 _ _ ?_
  refine wp_seq_k fun K4 hK4 => ?_
  refine wp_seq_k fun K5 hK5 => ?_
  refine wp_region_lit ?_
  refine L_val hF (by kernel_rfl) (by kernel_rfl) (v := .string (⟨#[116, 99, 112]⟩ : ByteArray)) (by kernel_rfl) (by kernel_rfl) ?_
  clear hF; intro a hF
  refine L_val hF (by kernel_rfl) (by kernel_rfl) (v := .int .i64 3) (by kernel_rfl) (by kernel_rfl) ?_
  clear hF; intro a hF
  refine L_val hF (by kernel_rfl) (by kernel_rfl) (v := .bool false) (by kernel_rfl) (by kernel_rfl) ?_
  clear hF; intro a hF
  refine L_nil ?_
  refine hK5 _ _ ?_
  refine cond_f hF (by kernel_rfl) (by kernel_rfl) ?_
  refine wp_skip ?_
  refine hK4 _ _ ?_
  refine wp_seq_k fun K6 hK6 => ?_
  refine wp_region_lit ?_
  refine L_val hF (by kernel_rfl) (by kernel_rfl) (v := .string (⟨#[]⟩ : ByteArray)) (by kernel_rfl) (by kernel_rfl) ?_
  clear hF; intro a hF
  refine L_nil ?_
  refine hK6 _ _ ?_
  refine wp_seq_k fun K7 hK7 => ?_
  refine wp_seq_k fun K8 hK8 => ?_
  refine wp_region_lit ?_
  refine L_val hF (by kernel_rfl) (by kernel_rfl) (v := .int .i64 (n)) (by kernel_rfl) (by kernel_rfl) ?_
  clear hF; intro a hF
  refine L_val hF (by kernel_rfl) (by kernel_rfl) (v := .bool (n == 6)) (by kernel_rfl) (by kernel_rfl) ?_
  clear hF; intro a hF
  refine L_nil ?_
  refine hK8 _ _ ?_
  replace hF := hF.know (d := 16) (v' := .bool false) (by kernel_rfl) (congrArg Value.bool (eqF h6))
  refine cond_f hF (by kernel_rfl) (by kernel_rfl) ?_
  refine wp_skip ?_
  refine hK7 _ _ ?_
  refine wp_seq_k fun K9 hK9 => ?_
  refine wp_seq_k fun K10 hK10 => ?_
  refine wp_region_lit ?_
  refine L_val hF (by kernel_rfl) (by kernel_rfl) (v := .int .i64 (n)) (by kernel_rfl) (by kernel_rfl) ?_
  clear hF; intro a hF
  refine L_val hF (by kernel_rfl) (by kernel_rfl) (v := .bool (n == 17)) (by kernel_rfl) (by kernel_rfl) ?_
  clear hF; intro a hF
  refine L_nil ?_
  refine hK10 _ _ ?_
  replace hF := hF.know (d := 18) (v' := .bool true) (by kernel_rfl) (congrArg Value.bool (eqT h17))
  refine cond_t hF (by kernel_rfl) (by kernel_rfl) ?_
  refine wp_region_lit ?_
  refine L_val hF (by kernel_rfl) (by kernel_rfl) (v := .string (⟨#[117, 100, 112]⟩ : ByteArray)) (by kernel_rfl) (by kernel_rfl) ?_
  clear hF; intro a hF
  refine L_nil ?_
  refine hK9 _ _ ?_
  refine wp_seq_k fun K11 hK11 => ?_
  refine wp_region_lit ?_
  refine L_val hF (by kernel_rfl) (by kernel_rfl) (v := .string (⟨#[116, 99, 112]⟩ : ByteArray)) (by kernel_rfl) (by kernel_rfl) ?_
  clear hF; intro a hF
  refine L_call hF (by kernel_rfl) (by kernel_rfl) (by kernel_rfl) (by kernel_rfl) (ports_Named0 W1) ?_
  clear hF; rintro _ W2 a ⟨rfl, hk⟩ hF
  replace hO := hO.call0 hk; clear hk
  refine L_val hF (by kernel_rfl) (by kernel_rfl) (v := .tuple #[.int .i64 6, .nilIface]) (by kernel_rfl) (by kernel_rfl) ?_
  clear hF; intro a hF
  refine L_val hF (by kernel_rfl) (by kernel_rfl) (v := .int .i64 6) (by kernel_rfl) (by kernel_rfl) ?_
  clear hF; intro a hF
  refine L_val hF (by kernel_rfl) (by kernel_rfl) (v := .nilIface) (by kernel_rfl) (by kernel_rfl) ?_
  clear hF; intro a hF
  refine L_val hF (by kernel_rfl) (by kernel_rfl) (v := .int .i64 6) (by kernel_rfl) (by kernel_rfl) ?_
  clear hF; intro a hF
  refine L_val hF (by kernel_rfl) (by kernel_rfl) (v := .nilIface) (by kernel_rfl) (by kernel_rfl) ?_
  clear hF; intro a hF
  refine L_nil ?_
  refine hK11 _ _ ?_
  refine wp_seq_k fun K12 hK12 => ?_
  refine wp_region_lit ?_
  refine L_val hF (by kernel_rfl) (by kernel_rfl) (v := .int .i64 0) (by kernel_rfl) (by kernel_rfl) ?_
  clear hF; intro a hF
  refine L_val hF (by kernel_rfl) (by kernel_rfl) (v := .int .i64 17) (by kernel_rfl) (by kernel_rfl) ?_
  clear hF; intro a hF
  refine L_nil ?_
  refine hK12 _ _ ?_
  refine wp_seq_k fun K13 hK13 => ?_
  refine wp_seq_k fun K14 hK14 => ?_
  refine wp_region_lit ?_
  refine L_val hF (by kernel_rfl) (by kernel_rfl) (v := .string (⟨#[116, 99, 112]⟩ : ByteArray)) (by kernel_rfl) (by kernel_rfl) ?_
  clear hF; intro a hF
  refine L_val hF (by kernel_rfl) (by kernel_rfl) (v := .bool true) (x_bool (x := strEq (⟨#[116, 99, 112]⟩ : ByteArray) (⟨#[116, 99, 112]⟩ : ByteArray)) (strEq_refl _) (by kernel_rfl)) (by kernel_rfl) ?_
  clear hF; intro a hF
  refine L_nil ?_
  refine hK14 _ _ ?_
  refine cond_t hF (by kernel_rfl) (by kernel_rfl) ?_
  refine wp_region_lit ?_
  refine L_val hF (by kernel_rfl) (by kernel_rfl) (v := .int .i64 6) (by kernel_rfl) (by kernel_rfl) ?_
  clear hF; intro a hF
  refine L_val hF (by kernel_rfl) (by kernel_rfl) (v := .int .i64 0) (by kernel_rfl) (by kernel_rfl) ?_
  clear hF; intro a hF
  refine L_nil ?_
  refine hK13 _ _ ?_
  refine wp_seq_k fun K15 hK15 => ?_
  refine wp_seq_k fun K16 hK16 => ?_
  refine wp_region_lit ?_
  refine L_val hF (by kernel_rfl) (by kernel_rfl) (v := .string (⟨#[116, 99, 112]⟩ : ByteArray)) (by kernel_rfl) (by kernel_rfl) ?_
  clear hF; intro a hF
  refine L_val hF (by kernel_rfl) (by kernel_rfl) (v := .bool false) (by kernel_rfl) (by kernel_rfl) ?_
  clear hF; intro a hF
  refine L_nil ?_
  refine hK16 _ _ ?_
  refine cond_f hF (by kernel_rfl) (by kernel_rfl) ?_
  refine wp_skip ?_
  refine hK15 _ _ ?_
  refine wp_seq_k fun K17 hK17 => ?_
  refine wp_region_lit ?_
  refine L_val hF (by kernel_rfl) (by kernel_rfl) (v := .int .i64 (n)) (by kernel_rfl) (by kernel_rfl) ?_
  clear hF; intro a hF
  refine L_call hF (by kernel_rfl) (by kernel_rfl) (by kernel_rfl) (by kernel_rfl) (ports_Right n W2) ?_
  clear hF; rintro _ W3 a ⟨rfl, hk⟩ hF
  replace hO := hO.call0 hk; clear hk
  refine L_val hF (by kernel_rfl) (by kernel_rfl) (v := .int .i64 (n)) (by kernel_rfl) (by kernel_rfl) ?_
  clear hF; intro a hF
  refine L_call hF (by kernel_rfl) (by kernel_rfl) (by kernel_rfl) (by kernel_rfl) (ref04_Right n W3) ?_
  clear hF; rintro _ W4 a ⟨rfl, hk⟩ hF
  replace hO := hO.call0 hk; clear hk
  refine L_val hF (by kernel_rfl) (by kernel_rfl) (v := .bool true) (x_bool (x := (decide (1 ≤ n ∧ n ≤ 65535)) == (decide (1 ≤ n ∧ n ≤ 65535))) (beq_self_eq_true _) (by kernel_rfl)) (by kernel_rfl) ?_
  clear hF; intro a hF
  refine L_val hF (by kernel_rfl) (by kernel_rfl) (v := .bool true) (by kernel_rfl) (by kernel_rfl) ?_
  clear hF; intro a hF
  refine L_val hF (by kernel_rfl) (by kernel_rfl) (v := .int .i64 (n)) (by kernel_rfl) (by kernel_rfl) ?_
  clear hF; intro a hF
  refine L_call hF (by kernel_rfl) (by kernel_rfl) (by kernel_rfl) (by kernel_rfl) (ports_Proto n W4) ?_
  clear hF; rintro _ W5 a ⟨rfl, hk⟩ hF
  replace hO := hO.call0 hk; clear hk
  refine L_val hF (by kernel_rfl) (by kernel_rfl) (v := .int .i64 (n)) (by kernel_rfl) (by kernel_rfl) ?_
  clear hF; intro a hF
  refine L_call hF (by kernel_rfl) (by kernel_rfl) (by kernel_rfl) (by kernel_rfl) (ref04_Proto n W5) ?_
  clear hF; rintro _ W6 a ⟨rfl, hk⟩ hF
  replace hO := hO.call0 hk; clear hk
  refine L_val hF (by kernel_rfl) (by kernel_rfl) (v := .bool true) (x_bool (x := (decide (n = 6 ∨ n = 17)) == (decide (n = 6 ∨ n = 17))) (beq_self_eq_true _) (by kernel_rfl)) (by kernel_rfl) ?_
  clear hF; intro a hF
  refine L_val hF (by kernel_rfl) (by kernel_rfl) (v := .bool true) (by kernel_rfl) (by kernel_rfl) ?_
  clear hF; intro a hF
  refine L_val hF (by kernel_rfl) (by kernel_rfl) (v := .bool true) (by kernel_rfl) (by kernel_rfl) ?_
  clear hF; intro a hF
  refine L_val hF (by kernel_rfl) (by kernel_rfl) (v := .int .i64 (n)) (by kernel_rfl) (by kernel_rfl) ?_
  clear hF; intro a hF
  refine L_call hF (by kernel_rfl) (by kernel_rfl) (by kernel_rfl) (by kernel_rfl) ((ports_Word n W6).mono fun v W' h => (⟨by rw [h.1, if_neg h6, if_pos h17], h.2⟩ : v = .string ⟨#[117, 100, 112]⟩ ∧ Own W6 noX [] W')) ?_
  clear hF; rintro _ W7 a ⟨rfl, hk⟩ hF
  replace hO := hO.call0 hk; clear hk
  refine L_val hF (by kernel_rfl) (by kernel_rfl) (v := .string (⟨#[117, 100, 112]⟩ : ByteArray)) (by kernel_rfl) (by kernel_rfl) ?_
  clear hF; intro a hF
  refine L_val hF (by kernel_rfl) (by kernel_rfl) (v := .bool true) (x_bool (x := strEq (⟨#[117, 100, 112]⟩ : ByteArray) (⟨#[117, 100, 112]⟩ : ByteArray)) (strEq_refl _) (by kernel_rfl)) (by kernel_rfl) ?_
  clear hF; intro a hF
  refine L_val hF (by kernel_rfl) (by kernel_rfl) (v := .bool true) (by kernel_rfl) (by kernel_rfl) ?_
  clear hF; intro a hF
  refine L_val hF (by kernel_rfl) (by kernel_rfl) (v := .bool true) (by kernel_rfl) (by kernel_rfl) ?_
  clear hF; intro a hF
  refine L_val hF (by kernel_rfl) (by kernel_rfl) (v := .int .i64 6) (by kernel_rfl) (by kernel_rfl) ?_
  clear hF; intro a hF
  refine L_val hF (by kernel_rfl) (by kernel_rfl) (v := .int .i64 6) (by kernel_rfl) (by kernel_rfl) ?_
  clear hF; intro a hF
  refine L_val hF (by kernel_rfl) (by kernel_rfl) (v := .bool true) (by kernel_rfl) (by kernel_rfl) ?_
  clear hF; intro a hF
  refine L_val hF (by kernel_rfl) (by kernel_rfl) (v := .bool true) (by kernel_rfl) (by kernel_rfl) ?_
  clear hF; intro a hF
  refine L_val hF (by kernel_rfl) (by kernel_rfl) (v := .bool true) (by kernel_rfl) (by kernel_rfl) ?_
  clear hF; intro a hF
  refine L_val hF (by kernel_rfl) (by kernel_rfl) (v := .nilIface) (by kernel_rfl) (by kernel_rfl) ?_
  clear hF; intro a hF
  refine L_call hF (by kernel_rfl) (by kernel_rfl) (by kernel_rfl) (by kernel_rfl) (num_nil W7) ?_
  clear hF; rintro _ W8 a ⟨rfl, hk⟩ hF
  replace hO := hO.call0 hk; clear hk
  refine L_val hF (by kernel_rfl) (by kernel_rfl) (v := .int .i64 0) (by kernel_rfl) (by kernel_rfl) ?_
  clear hF; intro a hF
  refine L_val hF (by kernel_rfl) (by kernel_rfl) (v := .bool true) (by kernel_rfl) (by kernel_rfl) ?_
  clear hF; intro a hF
  refine L_val hF (by kernel_rfl) (by kernel_rfl) (v := .bool true) (by kernel_rfl) (by kernel_rfl) ?_
  clear hF; intro a hF
  refine L_val hF (by kernel_rfl) (by kernel_rfl) (v := .bool true) (by kernel_rfl) (by kernel_rfl) ?_
  clear hF; intro a hF
  refine L_nil ?_
  refine hK17 _ _ ?_
  refine wp_ret ?_
  -- way 1: ¬ n = 6; n = 17
  refine ret1 hF (v := .bool true) rfl (resT (by kernel_rfl)) (by refine ⟨?_, hO.nil⟩; first | rfl | (exfalso; omega)) .ret (.inl rfl)

set_option maxRecDepth 20000 in
theorem law04_PortsWords02 (I : List Nat) (ea : Nat → Addr) (n : Int) (W : World) (hG : LibW W) (hE : Errs I ea W) (h3 : I.contains 3 = true) (h16 : I.contains 16 = true) (hI : I = errIs) (h6 : ¬ n = 6) (h17 : ¬ n = 17) : Ret Tryz.prog 3 #[.int .i64 (n), .string (⟨#[116, 99, 112]⟩ : ByteArray)] W fun v W' => v = .bool true ∧ Own W noX [] W' := by
  refine enter Tryz.func3 rfl (n := 57) rfl (by kernel_rfl) (E0 := [(1, .string (⟨#[116, 99, 112]⟩ : ByteArray)), (0, .int .i64 (n))]) (by kernel_rfl) ?_
  intro a hF; have hO := Own.start W noX
  refine wp_seq_k fun K1 hK1 => ?_
  refine wp_region_lit ?_
  refine L_val hF (by kernel_rfl) (by kernel_rfl) (v := .bool false) (by kernel_rfl) (by kernel_rfl) ?_
  clear hF; intro a hF
  refine L_nil ?_
  refine hK1 _ _ ?_
  refine wp_seq_k fun K2 hK2 => ?_
  refine wp_seq_k fun K3 hK3 => ?_
  refine wp_region_lit ?_
  refine L_call hF (by kernel_rfl) (by kernel_rfl) (by kernel_rfl) (by kernel_rfl) (law04_alive I ea W (hG.own hO) (hE.own hO) h3) ?_
  clear hF; rintro _ W1 a ⟨rfl, hk⟩ hF
  replace hO := hO.call0 hk; clear hk
  refine L_val hF (by kernel_rfl) (by kernel_rfl) (v := .bool false) (by kernel_rfl) (by kernel_rfl) ?_
  clear hF; intro a hF
  refine L_nil ?_
  refine hK3 _ _ ?_
  refine cond_f hF (by kernel_rfl) (by kernel_rfl) ?_
  refine wp_skip ?_
  refine hK2 _ _ ?_
  refine wp_seq_k fun K4 hK4 => ?_
  refine wp_seq_k fun K5 hK5 => ?_
  refine wp_region_lit ?_
  refine L_val hF (by kernel_rfl) (by kernel_rfl) (v := .string (⟨#[116, 99, 112]⟩ : ByteArray)) (by kernel_rfl) (by kernel_rfl) ?_
  clear hF; intro a hF
  refine L_val hF (by kernel_rfl) (by kernel_rfl) (v := .int .i64 3) (by kernel_rfl) (by kernel_rfl) ?_
  clear hF; intro a hF
  refine L_val hF (by kernel_rfl) (by kernel_rfl) (v := .bool false) (by kernel_rfl) (by kernel_rfl) ?_
  clear hF; intro a hF
  refine L_nil ?_
  refine hK5 _ _ ?_
  refine cond_f hF (by kernel_rfl) (by kernel_rfl) ?_
  refine wp_skip ?_
  refine hK4 _ _ ?_
  refine wp_seq_k fun K6 hK6 => ?_
  refine wp_region_lit ?_
  refine L_val hF (by kernel_rfl) (by kernel_rfl) (v := .string (⟨#[]⟩ : ByteArray)) (by kernel_rfl) (by kernel_rfl) ?_
  clear hF; intro a hF
  refine L_nil ?_
  refine hK6 _ _ ?_
  refine wp_seq_k fun K7 hK7 => ?_
  refine wp_seq_k fun K8 hK8 => ?_
  refine wp_region_lit ?_
  refine L_val hF (by kernel_rfl) (by kernel_rfl) (v := .int .i64 (n)) (by kernel_rfl) (by kernel_rfl) ?_
  clear hF; intro a hF
  refine L_val hF (by kernel_rfl) (by kernel_rfl) (v := .bool (n == 6)) (by kernel_rfl) (by kernel_rfl) ?_
  clear hF; intro a hF
  refine L_nil ?_
  refine hK8 _ _ ?_
  replace hF := hF.know (d := 16) (v' := .bool false) (by kernel_rfl) (congrArg Value.bool (eqF h6))
  refine cond_f hF (by kernel_rfl) (by kernel_rfl) ?_
  refine wp_skip ?_
  refine hK7 _ _ ?_
  refine wp_seq_k fun K9 hK9 => ?_
  refine wp_seq_k fun K10 hK10 => ?_
  refine wp_region_lit ?_
  refine L_val hF (by kernel_rfl) (by kernel_rfl) (v := .int .i64 (n)) (by kernel_rfl) (by kernel_rfl) ?_
  clear hF; intro a hF
  refine L_val hF (by kernel_rfl) (by kernel_rfl) (v := .bool (n == 17)) (by kernel_rfl) (by kernel_rfl) ?_
  clear hF; intro a hF
  refine L_nil ?_
  refine hK10 _ _ ?_
  replace hF := hF.know (d := 18) (v' := .bool false) (by kernel_rfl) (congrArg Value.bool (eqF h17))
  refine cond_f hF (by kernel_rfl) (by kernel_rfl) ?_
  refine wp_skip ?_
  refine hK9 _ _ ?_
  refine wp_seq_k fun K11 hK11 => ?_
  refine wp_region_lit ?_
  refine L_val hF (by kernel_rfl) (by kernel_rfl) (v := .string (⟨#[116, 99, 112]⟩ : ByteArray)) (by kernel_rfl) (by kernel_rfl) ?_
  clear hF; intro a hF
  refine L_call hF (by kernel_rfl) (by kernel_rfl) (by kernel_rfl) (by kernel_rfl) (ports_Named0 W1) ?_
  clear hF; rintro _ W2 a ⟨rfl, hk⟩ hF
  replace hO := hO.call0 hk; clear hk
  refine L_val hF (by kernel_rfl) (by kernel_rfl) (v := .tuple #[.int .i64 6, .nilIface]) (by kernel_rfl) (by kernel_rfl) ?_
  clear hF; intro a hF
  refine L_val hF (by kernel_rfl) (by kernel_rfl) (v := .int .i64 6) (by kernel_rfl) (by kernel_rfl) ?_
  clear hF; intro a hF
  refine L_val hF (by kernel_rfl) (by kernel_rfl) (v := .nilIface) (by kernel_rfl) (by kernel_rfl) ?_
  clear hF; intro a hF
  refine L_val hF (by kernel_rfl) (by kernel_rfl) (v := .int .i64 6) (by kernel_rfl) (by kernel_rfl) ?_
  clear hF; intro a hF
  refine L_val hF (by kernel_rfl) (by kernel_rfl) (v := .nilIface) (by kernel_rfl) (by kernel_rfl) ?_
  clear hF; intro a hF
  refine L_nil ?_
  refine hK11 _ _ ?_
  refine wp_seq_k fun K12 hK12 => ?_
  refine wp_region_lit ?_
  refine L_val hF (by kernel_rfl) (by kernel_rfl) (v := .int .i64 0) (by kernel_rfl) (by kernel_rfl) ?_
  clear hF; intro a hF
  refine L_val hF (by kernel_rfl) (by kernel_rfl) (v := .int .i64 17) (by kernel_rfl) (by kernel_rfl) ?_
  clear hF; intro a hF
  refine L_nil ?_
  refine hK12 _ _ ?_
  refine wp_seq_k fun K13 hK13 => ?_
  refine wp_seq_k fun K14 hK14 => ?_
  refine wp_region_lit ?_
  refine L_val hF (by kernel_rfl) (by kernel_rfl) (v := .string (⟨#[116, 99, 112]⟩ : ByteArray)) (by kernel_rfl) (by kernel_rfl) ?_
  clear hF; intro a hF
  refine L_val hF (by kernel_rfl) (by kernel_rfl) (v := .bool true) (x_bool (x := strEq (⟨#[116, 99, 112]⟩ : ByteArray) (⟨#[116, 99, 112]⟩ : ByteArray)) (strEq_refl _) (by kernel_rfl)) (by kernel_rfl) ?_
  clear hF; intro a hF
  refine L_nil ?_
  refine hK14 _ _ ?_
  refine cond_t hF (by kernel_rfl) (by kernel_rfl) ?_
  refine wp_region_lit ?_
  refine L_val hF (by kernel_rfl) (by kernel_rfl) (v := .int .i64 6) (by kernel_rfl) (by kernel_rfl) ?_
  clear hF; intro a hF
  refine L_val hF (by kernel_rfl) (by kernel_rfl) (v := .int .i64 0) (by kernel_rfl) (by kernel_rfl) ?_
  clear hF; intro a hF
  refine L_nil ?_
  refine hK13 _ _ ?_
  refine wp_seq_k fun K15 hK15 => ?_
  refine wp_seq_k fun K16 hK16 => ?_
  refine wp_region_lit ?_
  refine L_val hF (by kernel_rfl) (by kernel_rfl) (v := .string (⟨#[116, 99, 112]⟩ : ByteArray)) (by kernel_rfl) (by kernel_rfl) ?_
  clear hF; intro a hF
  refine L_val hF (by kernel_rfl) (by kernel_rfl) (v := .bool false) (by kernel_rfl) (by kernel_rfl) ?_
  clear hF; intro a hF
  refine L_nil ?_
  refine hK16 _ _ ?_
  refine cond_f hF (by kernel_rfl) (by kernel_rfl) ?_
  refine wp_skip ?_
  refine hK15 _ _ ?_
  refine wp_seq_k fun K17 hK17 => ?_
  refine wp_region_lit ?_
  refine L_val hF (by kernel_rfl) (by kernel_rfl) (v := .int .i64 (n)) (by kernel_rfl) (by kernel_rfl) ?_
  clear hF; intro a hF
  refine L_call hF (by kernel_rfl) (by kernel_rfl) (by kernel_rfl) (by kernel_rfl) (ports_Right n W2) ?_
  clear hF; rintro _ W3 a ⟨rfl, hk⟩ hF
  replace hO := hO.call0 hk; clear hk
  refine L_val hF (by kernel_rfl) (by kernel_rfl) (v := .int .i64 (n)) (by kernel_rfl) (by kernel_rfl) ?_
  clear hF; intro a hF
  refine L_call hF (by kernel_rfl) (by kernel_rfl) (by kernel_rfl) (by kernel_rfl) (ref04_Right n W3) ?_
  clear hF; rintro _ W4 a ⟨rfl, hk⟩ hF
  replace hO := hO.call0 hk; clear hk
  refine L_val hF (by kernel_rfl) (by kernel_rfl) (v := .bool true) (x_bool (x := (decide (1 ≤ n ∧ n ≤ 65535)) == (decide (1 ≤ n ∧ n ≤ 65535))) (beq_self_eq_true _) (by kernel_rfl)) (by kernel_rfl) ?_
  clear hF; intro a hF
  refine L_val hF (by kernel_rfl) (by kernel_rfl) (v := .bool true) (by kernel_rfl) (by kernel_rfl) ?_
  clear hF; intro a hF
  refine L_val hF (by kernel_rfl) (by kernel_rfl) (v := .int .i64 (n)) (by kernel_rfl) (by kernel_rfl) ?_
  clear hF; intro a hF
  refine L_call hF (by kernel_rfl) (by kernel_rfl) (by kernel_rfl) (by kernel_rfl) (ports_Proto n W4) ?_
  clear hF; rintro _ W5 a ⟨rfl, hk⟩ hF
  replace hO := hO.call0 hk; clear hk
  refine L_val hF (by kernel_rfl) (by kernel_rfl) (v := .int .i64 (n)) (by kernel_rfl) (by kernel_rfl) ?_
  clear hF; intro a hF
  refine L_call hF (by kernel_rfl) (by kernel_rfl) (by kernel_rfl) (by kernel_rfl) (ref04_Proto n W5) ?_
  clear hF; rintro _ W6 a ⟨rfl, hk⟩ hF
  replace hO := hO.call0 hk; clear hk
  refine L_val hF (by kernel_rfl) (by kernel_rfl) (v := .bool true) (x_bool (x := (decide (n = 6 ∨ n = 17)) == (decide (n = 6 ∨ n = 17))) (beq_self_eq_true _) (by kernel_rfl)) (by kernel_rfl) ?_
  clear hF; intro a hF
  refine L_val hF (by kernel_rfl) (by kernel_rfl) (v := .bool true) (by kernel_rfl) (by kernel_rfl) ?_
  clear hF; intro a hF
  refine L_val hF (by kernel_rfl) (by kernel_rfl) (v := .bool true) (by kernel_rfl) (by kernel_rfl) ?_
  clear hF; intro a hF
  refine L_val hF (by kernel_rfl) (by kernel_rfl) (v := .int .i64 (n)) (by kernel_rfl) (by kernel_rfl) ?_
  clear hF; intro a hF
  refine L_call hF (by kernel_rfl) (by kernel_rfl) (by kernel_rfl) (by kernel_rfl) ((ports_Word n W6).mono fun v W' h => (⟨by rw [h.1, if_neg h6, if_neg h17], h.2⟩ : v = .string ⟨#[]⟩ ∧ Own W6 noX [] W')) ?_
  clear hF; rintro _ W7 a ⟨rfl, hk⟩ hF
  replace hO := hO.call0 hk; clear hk
  refine L_val hF (by kernel_rfl) (by kernel_rfl) (v := .string (⟨#[]⟩ : ByteArray)) (by kernel_rfl) (by kernel_rfl) ?_
  clear hF; intro a hF
  refine L_val hF (by kernel_rfl) (by kernel_rfl) (v := .bool true) (x_bool (x := strEq (⟨#[]⟩ : ByteArray) (⟨#[]⟩ : ByteArray)) (strEq_refl _) (by kernel_rfl)) (by kernel_rfl) ?_
  clear hF; intro a hF
  refine L_val hF (by kernel_rfl) (by kernel_rfl) (v := .bool true) (by kernel_rfl) (by kernel_rfl) ?_
  clear hF; intro a hF
  refine L_val hF (by kernel_rfl) (by kernel_rfl) (v := .bool true) (by kernel_rfl) (by kernel_rfl) ?_
  clear hF; intro a hF
  refine L_val hF (by kernel_rfl) (by kernel_rfl) (v := .int .i64 6) (by kernel_rfl) (by kernel_rfl) ?_
  clear hF; intro a hF
  refine L_val hF (by kernel_rfl) (by kernel_rfl) (v := .int .i64 6) (by kernel_rfl) (by kernel_rfl) ?_
  clear hF; intro a hF
  refine L_val hF (by kernel_rfl) (by kernel_rfl) (v := .bool true) (by kernel_rfl) (by kernel_rfl) ?_
  clear hF; intro a hF
  refine L_val hF (by kernel_rfl) (by kernel_rfl) (v := .bool true) (by kernel_rfl) (by kernel_rfl) ?_
  clear hF; intro a hF
  refine L_val hF (by kernel_rfl) (by kernel_rfl) (v := .bool true) (by kernel_rfl) (by kernel_rfl) ?_
  clear hF; intro a hF
  refine L_val hF (by kernel_rfl) (by kernel_rfl) (v := .nilIface) (by kernel_rfl) (by kernel_rfl) ?_
  clear hF; intro a hF
  refine L_call hF (by kernel_rfl) (by kernel_rfl) (by kernel_rfl) (by kernel_rfl) (num_nil W7) ?_
  clear hF; rintro _ W8 a ⟨rfl, hk⟩ hF
  replace hO := hO.call0 hk; clear hk
  refine L_val hF (by kernel_rfl) (by kernel_rfl) (v := .int .i64 0) (by kernel_rfl) (by kernel_rfl) ?_
  clear hF; intro a hF
  refine L_val hF (by kernel_rfl) (by kernel_rfl) (v := .bool true) (by kernel_rfl) (by kernel_rfl) ?_
  clear hF; intro a hF
  refine L_val hF (by kernel_rfl) (by kernel_rfl) (v := .bool true) (by kernel_rfl) (by kernel_rfl) ?_
  clear hF; intro a hF
  refine L_val hF (by kernel_rfl) (by kernel_rfl) (v := .bool true) (by kernel_rfl) (by kernel_rfl) ?_
  clear hF; intro a hF
  refine L_nil ?_
  refine hK17 _ _ ?_
  refine wp_ret ?_
  -- way 1: ¬ n = 6; ¬ n = 17
  refine ret1 hF (v := .bool true) rfl (resT (by kernel_rfl)) (by refine ⟨?_, hO.nil⟩; first | rfl | (exfalso; omega)) .ret (.inl rfl)

set_option maxRecDepth 20000 in
theorem law04_PortsWords10 (I : List Nat) (ea : Nat → Addr) (n : Int) (W : World) (hG : LibW W) (hE : Errs I ea W) (h3 : I.contains 3 = true) (h16 : I.contains 16 = true) (hI : I = errIs) (h6 : n = 6) : Ret Tryz.prog 3 #[.int .i64 (n), .string (⟨#[117, 100, 112]⟩ : ByteArray)] W fun v W' => v = .bool true ∧ Own W noX [] W' := by
  refine enter Tryz.func3 rfl (n := 57) rfl (by kernel_rfl) (E0 := [(1, .string (⟨#[117, 100, 112]⟩ : ByteArray)), (0, .int .i64 (n))]) (by kernel_rfl) ?_
  intro a hF; have hO := Own.start W noX
  refine wp_seq_k fun K1 hK1 => ?_
  refine wp_region_lit ?_
  refine L_val hF (by kernel_rfl) (by kernel_rfl) (v := .bool false) (by kernel_rfl) (by kernel_rfl) ?_
  clear hF; intro a hF
  refine L_nil ?_
  refine hK1 _ _ ?_
  refine wp_seq_k fun K2 hK2 => ?_
  refine wp_seq_k fun K3 hK3 => ?_
  refine wp_region_lit ?_
  refine L_call hF (by kernel_rfl) (by kernel_rfl) (by kernel_rfl) (by kernel_rfl) (law04_alive I ea W (hG.own hO) (hE.own hO) h3) ?_
  clear hF; rintro _ W1 a ⟨rfl, hk⟩ hF
  replace hO := hO.call0 hk; clear hk
  refine L_val hF (by kernel_rfl) (by kernel_rfl) (v := .bool false) (by kernel_rfl) (by kernel_rfl) ?_
  clear hF; intro a hF
  refine L_nil ?_
  refine hK3 _ _ ?_
  refine cond_f hF (by kernel_rfl) (by kernel_rfl) ?_
  refine wp_skip ?_
  refine hK2 _ _ ?_
  refine wp_seq_k fun K4 hK4 => ?_
  refine wp_seq_k fun K5 hK5 => ?_
  refine wp_region_lit ?_
  refine L_val hF (by kernel_rfl) (by kernel_rfl) (v := .string (⟨#[117, 100, 112]⟩ : ByteArray)) (by kernel_rfl) (by kernel_rfl) ?_
  clear hF; intro a hF
  refine L_val hF (by kernel_rfl) (by kernel_rfl) (v := .int .i64 3) (by kernel_rfl) (by kernel_rfl) ?_
  clear hF; intro a hF
  refine L_val hF (by kernel_rfl) (by kernel_rfl) (v := .bool false) (by kernel_rfl) (by kernel_rfl) ?_
  clear hF; intro a hF
  refine L_nil ?_
  refine hK5 _ _ ?_
  refine cond_f hF (by kernel_rfl) (by kernel_rfl) ?_
  refine wp_skip ?_
  refine hK4 _ _ ?_
  refine wp_seq_k fun K6 hK6 => ?_
  refine wp_region_lit ?_
  refine L_val hF (by kernel_rfl) (by kernel_rfl) (v := .string (⟨#[]⟩ : ByteArray)) (by kernel_rfl) (by kernel_rfl) ?_
  clear hF; intro a hF
  refine L_nil ?_
  refine hK6 _ _ ?_
  refine wp_seq_k fun K7 hK7 => ?_
  refine wp_seq_k fun K8 hK8 => ?_
  refine wp_region_lit ?_
  refine L_val hF (by kernel_rfl) (by kernel_rfl) (v := .int .i64 (n)) (by kernel_rfl) (by kernel_rfl) ?_
  clear hF; intro a hF
  refine L_val hF (by kernel_rfl) (by kernel_rfl) (v := .bool (n == 6)) (by kernel_rfl) (by kernel_rfl) ?_
  clear hF; intro a hF
  refine L_nil ?_
  refine hK8 _ _ ?_
  replace hF := hF.know (d := 16) (v' := .bool true) (by kernel_rfl) (congrArg Value.bool (eqT h6))
  refine cond_t hF (by kernel_rfl) (by kernel_rfl) ?_
  refine wp_region_lit ?_
  refine L_val hF (by kernel_rfl) (by kernel_rfl) (v := .string (⟨#[116, 99, 112]⟩ : ByteArray)) (by kernel_rfl) (by kernel_rfl) ?_
  clear hF; intro a hF
  refine L_nil ?_
  refine hK7 _ _ ?_
  refine wp_seq_k fun K9 hK9 => ?_
  refine wp_seq_k fun K10 hK10 => ?_
  refine wp_region_lit ?_
  refine L_val hF (by kernel_rfl) (by kernel_rfl) (v := .int .i64 (n)) (by kernel_rfl) (by kernel_rfl) ?_
  clear hF; intro a hF
  refine L_val hF (by kernel_rfl) (by kernel_rfl) (v := .bool (n == 17)) (by kernel_rfl) (by kernel_rfl) ?_
  clear hF; intro a hF
  refine L_nil ?_
  refine hK10 _ _ ?_
  by_cases q1 : n = 17
  ·
    replace hF := hF.know (d := 18) (v' := .bool true) (by kernel_rfl) (congrArg Value.bool (eqT q1))
    refine cond_t hF (by kernel_rfl) (by kernel_rfl) ?_
    refine wp_region_lit ?_
    refine L_val hF (by kernel_rfl) (by kernel_rfl) (v := .string (⟨#[117, 100, 112]⟩ : ByteArray)) (by kernel_rfl) (by kernel_rfl) ?_
    clear hF; intro a hF
    refine L_nil ?_
    refine hK9 _ _ ?_
    refine wp_seq_k fun K11 hK11 => ?_
    refine wp_region_lit ?_
    refine L_val hF (by kernel_rfl) (by kernel_rfl) (v := .string (⟨#[117, 100, 112]⟩ : ByteArray)) (by kernel_rfl) (by kernel_rfl) ?_
    clear hF; intro a hF
    refine L_call hF (by kernel_rfl) (by kernel_rfl) (by kernel_rfl) (by kernel_rfl) (ports_Named1 W1) ?_
    clear hF; rintro _ W2 a ⟨rfl, hk⟩ hF
    replace hO := hO.call0 hk; clear hk
    refine L_val hF (by kernel_rfl) (by kernel_rfl) (v := .tuple #[.int .i64 17, .nilIface]) (by kernel_rfl) (by kernel_rfl) ?_
    clear hF; intro a hF
    refine L_val hF (by kernel_rfl) (by kernel_rfl) (v := .int .i64 17) (by kernel_rfl) (by kernel_rfl) ?_
    clear hF; intro a hF
    refine L_val hF (by kernel_rfl) (by kernel_rfl) (v := .nilIface) (by kernel_rfl) (by kernel_rfl) ?_
    clear hF; intro a hF
    refine L_val hF (by kernel_rfl) (by kernel_rfl) (v := .int .i64 17) (by kernel_rfl) (by kernel_rfl) ?_
    clear hF; intro a hF
    refine L_val hF (by kernel_rfl) (by kernel_rfl) (v := .nilIface) (by kernel_rfl) (by kernel_rfl) ?_
    clear hF; intro a hF
    refine L_nil ?_
    refine hK11 _ _ ?_
    refine wp_seq_k fun K12 hK12 => ?_
    refine wp_region_lit ?_
    refine L_val hF (by kernel_rfl) (by kernel_rfl) (v := .int .i64 0) (by kernel_rfl) (by kernel_rfl) ?_
    clear hF; intro a hF
    refine L_val hF (by kernel_rfl) (by kernel_rfl) (v := .int .i64 17) (by kernel_rfl) (by kernel_rfl) ?_
    clear hF; intro a hF
    refine L_nil ?_
    refine hK12 _ _ ?_
    refine wp_seq_k fun K13 hK13 => ?_
    refine wp_seq_k fun K14 hK14 => ?_
    refine wp_region_lit ?_
    refine L_val hF (by kernel_rfl) (by kernel_rfl) (v := .string (⟨#[117, 100, 112]⟩ : ByteArray)) (by kernel_rfl) (by kernel_rfl) ?_
    clear hF; intro a hF
    refine L_val hF (by kernel_rfl) (by kernel_rfl) (v := .bool false) (by kernel_rfl) (by kernel_rfl) ?_
    clear hF; intro a hF
    refine L_nil ?_
    refine hK14 _ _ ?_
    refine cond_f hF (by kernel_rfl) (by kernel_rfl) ?_
    refine wp_skip ?_
    refine hK13 _ _ ?_
    refine wp_seq_k fun K15 hK15 => ?_
    refine wp_seq_k fun K16 hK16 => ?_
    refine wp_region_lit ?_
    refine L_val hF (by kernel_rfl) (by kernel_rfl) (v := .string (⟨#[117, 100, 112]⟩ : ByteArray)) (by kernel_rfl) (by kernel_rfl) ?_
    clear hF; intro a hF
    refine L_val hF (by kernel_rfl) (by kernel_rfl) (v := .bool true) (x_bool (x := strEq (⟨#[117, 100, 112]⟩ : ByteArray) (⟨#[117, 100, 112]⟩ : ByteArray)) (strEq_refl _) (by kernel_rfl)) (by kernel_rfl) ?_
    clear hF; intro a hF
    refine L_nil ?_
    refine hK16 _ _ ?_
    refine cond_t hF (by kernel_rfl) (by kernel_rfl) ?_
    refine wp_region_lit ?_
    refine L_val hF (by kernel_rfl) (by kernel_rfl) (v := .int .i64 17) (by kernel_rfl) (by kernel_rfl) ?_
    clear hF; intro a hF
    refine L_val hF (by kernel_rfl) (by kernel_rfl) (v := .int .i64 0) (by kernel_rfl) (by kernel_rfl) ?_
    clear hF; intro a hF
    refine L_nil ?_
    refine hK15 _ _ ?_
    refine wp_seq_k fun K17 hK17 => ?_
    refine wp_region_lit ?_
    refine L_val hF (by kernel_rfl) (by kernel_rfl) (v := .int .i64 (n)) (by kernel_rfl) (by kernel_rfl) ?_
    clear hF; intro a hF
    refine L_call hF (by kernel_rfl) (by kernel_rfl) (by kernel_rfl) (by kernel_rfl) (ports_Right n W2) ?_
    clear hF; rintro _ W3 a ⟨rfl, hk⟩ hF
    replace hO := hO.call0 hk; clear hk
    refine L_val hF (by kernel_rfl) (by kernel_rfl) (v := .int .i64 (n)) (by kernel_rfl) (by kernel_rfl) ?_
    clear hF; intro a hF
    refine L_call hF (by kernel_rfl) (by kernel_rfl) (by kernel_rfl) (by kernel_rfl) (ref04_Right n W3) ?_
    clear hF; rintro _ W4 a ⟨rfl, hk⟩ hF
    replace hO := hO.call0 hk; clear hk
    refine L_val hF (by kernel_rfl) (by kernel_rfl) (v := .bool true) (x_bool (x := (decide (1 ≤ n ∧ n ≤ 65535)) == (decide (1 ≤ n ∧ n ≤ 65535))) (beq_self_eq_true _) (by kernel_rfl)) (by kernel_rfl) ?_
    clear hF; intro a hF
    refine L_val hF (by kernel_rfl) (by kernel_rfl) (v := .bool true) (by kernel_rfl) (by kernel_rfl) ?_
    clear hF; intro a hF
    refine L_val hF (by kernel_rfl) (by kernel_rfl) (v := .int .i64 (n)) (by kernel_rfl) (by kernel_rfl) ?_
    clear hF; intro a hF
    refine L_call hF (by kernel_rfl) (by kernel_rfl) (by kernel_rfl) (by kernel_rfl) (ports_Proto n W4) ?_
    clear hF; rintro _ W5 a ⟨rfl, hk⟩ hF
    replace hO := hO.call0 hk; clear hk
    refine L_val hF (by kernel_rfl) (by kernel_rfl) (v := .int .i64 (n)) (by kernel_rfl) (by kernel_rfl) ?_
    clear hF; intro a hF
    refine L_call hF (by kernel_rfl) (by kernel_rfl) (by kernel_rfl) (by kernel_rfl) (ref04_Proto n W5) ?_
    clear hF; rintro _ W6 a ⟨rfl, hk⟩ hF
    replace hO := hO.call0 hk; clear hk
    refine L_val hF (by kernel_rfl) (by kernel_rfl) (v := .bool true) (x_bool (x := (decide (n = 6 ∨ n = 17)) == (decide (n = 6 ∨ n = 17))) (beq_self_eq_true _) (by kernel_rfl)) (by kernel_rfl) ?_
    clear hF; intro a hF
    refine L_val hF (by kernel_rfl) (by kernel_rfl) (v := .bool true) (by kernel_rfl) (by kernel_rfl) ?_
    clear hF; intro a hF
    refine L_val hF (by kernel_rfl) (by kernel_rfl) (v := .bool true) (by kernel_rfl) (by kernel_rfl) ?_
    clear hF; intro a hF
    refine L_val hF (by kernel_rfl) (by kernel_rfl) (v := .int .i64 (n)) (by kernel_rfl) (by kernel_rfl) ?_
    clear hF; intro a hF
    refine L_call hF (by kernel_rfl) (by kernel_rfl) (by kernel_rfl) (by kernel_rfl) ((ports_Word n W6).mono fun v W' h => (⟨by rw [h.1, if_pos h6], h.2⟩ : v = .string ⟨#[116, 99, 112]⟩ ∧ Own W6 noX [] W')) ?_
    clear hF; rintro _ W7 a ⟨rfl, hk⟩ hF
    replace hO := hO.call0 hk; clear hk
    refine L_val hF (by kernel_rfl) (by kernel_rfl) (v := .string (⟨#[117, 100, 112]⟩ : ByteArray)) (by kernel_rfl) (by kernel_rfl) ?_
    clear hF; intro a hF
    refine L_val hF (by kernel_rfl) (by kernel_rfl) (v := .bool false) (by kernel_rfl) (by kernel_rfl) ?_
    clear hF; intro a hF
    refine L_val hF (by kernel_rfl) (by kernel_rfl) (v := .bool false) (by kernel_rfl) (by kernel_rfl) ?_
    clear hF; intro a hF
    refine L_val hF (by kernel_rfl) (by kernel_rfl) (v := .bool false) (by kernel_rfl) (by kernel_rfl) ?_
    clear hF; intro a hF
    refine L_off hF (by kernel_rfl) (by kernel_rfl) ?_
    clear hF; intro a hF
    refine L_off hF (by kernel_rfl) (by kernel_rfl) ?_
    clear hF; intro a hF
    refine L_off hF (by kernel_rfl) (by kernel_rfl) ?_
    clear hF; intro a hF
    refine L_val hF (by kernel_rfl) (by kernel_rfl) (v := .bool false) (by kernel_rfl) (by kernel_rfl) ?_
    clear hF; intro a hF
    refine L_val hF (by kernel_rfl) (by kernel_rfl) (v := .bool false) (by kernel_rfl) (by kernel_rfl) ?_
    clear hF; intro a hF
    refine L_off hF (by kernel_rfl) (by kernel_rfl) ?_
    clear hF; intro a hF
    refine L_off hF (by kernel_rfl) (by kernel_rfl) ?_
    clear hF; intro a hF
    refine L_off hF (by kernel_rfl) (by kernel_rfl) ?_
    clear hF; intro a hF
    refine L_off hF (by kernel_rfl) (by kernel_rfl) ?_
    clear hF; intro a hF
    refine L_val hF (by kernel_rfl) (by kernel_rfl) (v := .bool false) (by kernel_rfl) (by kernel_rfl) ?_
    clear hF; intro a hF
    refine L_val hF (by kernel_rfl) (by kernel_rfl) (v := .bool false) (by kernel_rfl) (by kernel_rfl) ?_
    clear hF; intro a hF
    refine L_nil ?_
    refine hK17 _ _ ?_
    refine wp_ret ?_
    -- way 1: n = 6; n = 17
    refine ret1 hF (v := .bool false) rfl (resT (by kernel_rfl)) (by refine ⟨?_, hO.nil⟩; first | rfl | (exfalso; omega)) .ret (.inl rfl)
  ·
    replace hF := hF.know (d := 18) (v' := .bool false) (by kernel_rfl) (congrArg Value.bool (eqF q1))
    refine cond_f hF (by kernel_rfl) (by kernel_rfl) ?_
    refine wp_skip ?_
    refine hK9 _ _ ?_
    refine wp_seq_k fun K18 hK18 => ?_
    refine wp_region_lit ?_
    refine L_val hF (by kernel_rfl) (by kernel_rfl) (v := .string (⟨#[117, 100, 112]⟩ : ByteArray)) (by kernel_rfl) (by kernel_rfl) ?_
    clear hF; intro a hF
    refine L_call hF (by kernel_rfl) (by kernel_rfl) (by kernel_rfl) (by kernel_rfl) (ports_Named1 W1) ?_
    clear hF; rintro _ W8 a ⟨rfl, hk⟩ hF
    replace hO := hO.call0 hk; clear hk
    refine L_val hF (by kernel_rfl) (by kernel_rfl) (v := .tuple #[.int .i64 17, .nilIface]) (by kernel_rfl) (by kernel_rfl) ?_
    clear hF; intro a hF
    refine L_val hF (by kernel_rfl) (by kernel_rfl) (v := .int .i64 17) (by kernel_rfl) (by kernel_rfl) ?_
    clear hF; intro a hF
    refine L_val hF (by kernel_rfl) (by kernel_rfl) (v := .nilIface) (by kernel_rfl) (by kernel_rfl) ?_
    clear hF; intro a hF
    refine L_val hF (by kernel_rfl) (by kernel_rfl) (v := .int .i64 17) (by kernel_rfl) (by kernel_rfl) ?_
    clear hF; intro a hF
    refine L_val hF (by kernel_rfl) (by kernel_rfl) (v := .nilIface) (by kernel_rfl) (by kernel_rfl) ?_
    clear hF; intro a hF
    refine L_nil ?_
    refine hK18 _ _ ?_
    refine wp_seq_k fun K19 hK19 => ?_
    refine wp_region_lit ?_
    refine L_val hF (by kernel_rfl) (by kernel_rfl) (v := .int .i64 0) (by kernel_rfl) (by kernel_rfl) ?_
    clear hF; intro a hF
    refine L_val hF (by kernel_rfl) (by kernel_rfl) (v := .int .i64 17) (by kernel_rfl) (by kernel_rfl) ?_
    clear hF; intro a hF
    refine L_nil ?_
    refine hK19 _ _ ?_
    refine wp_seq_k fun K20 hK20 => ?_
    refine wp_seq_k fun K21 hK21 => ?_
    refine wp_region_lit ?_
    refine L_val hF (by kernel_rfl) (by kernel_rfl) (v := .string (⟨#[117, 100, 112]⟩ : ByteArray)) (by kernel_rfl) (by kernel_rfl) ?_
    clear hF; intro a hF
    refine L_val hF (by kernel_rfl) (by kernel_rfl) (v := .bool false) (by kernel_rfl) (by kernel_rfl) ?_
    clear hF; intro a hF
    refine L_nil ?_
    refine hK21 _ _ ?_
    refine cond_f hF (by kernel_rfl) (by kernel_rfl) ?_
    refine wp_skip ?_
    refine hK20 _ _ ?_
    refine wp_seq_k fun K22 hK22 => ?_
    refine wp_seq_k fun K23 hK23 => ?_
    refine wp_region_lit ?_
    refine L_val hF (by kernel_rfl) (by kernel_rfl) (v := .string (⟨#[117, 100, 112]⟩ : ByteArray)) (by kernel_rfl) (by kernel_rfl) ?_
    clear hF; intro a hF
    refine L_val hF (by kernel_rfl) (by kernel_rfl) (v := .bool true) (x_bool (x := strEq (⟨#[117, 100, 112]⟩ : ByteArray) (⟨#[117, 100, 112]⟩ : ByteArray)) (strEq_refl _) (by kernel_rfl)) (by kernel_rfl) ?_
    clear hF; intro a hF
    refine L_nil ?_
    refine hK23 _ _ ?_
    refine cond_t hF (by kernel_rfl) (by kernel_rfl) ?_
    refine wp_region_lit ?_
    refine L_val hF (by kernel_rfl) (by kernel_rfl) (v := .int .i64 17) (by kernel_rfl) (by kernel_rfl) ?_
    clear hF; intro a hF
    refine L_val hF (by kernel_rfl) (by kernel_rfl) (v := .int .i64 0) (by kernel_rfl) (by kernel_rfl) ?_
    clear hF; intro a hF
    refine L_nil ?_
    refine hK22 _ _ ?_
    refine wp_seq_k fun K24 hK24 => ?_
    refine wp_region_lit ?_
    refine L_val hF (by kernel_rfl) (by kernel_rfl) (v := .int .i64 (n)) (by kernel_rfl) (by kernel_rfl) ?_
    clear hF; intro a hF
    refine L_call hF (by kernel_rfl) (by kernel_rfl) (by kernel_rfl) (by kernel_rfl) (ports_Right n W8) ?_
    clear hF; rintro _ W9 a ⟨rfl, hk⟩ hF
    replace hO := hO.call0 hk; clear hk
    refine L_val hF (by kernel_rfl) (by kernel_rfl) (v := .int .i64 (n)) (by kernel_rfl) (by kernel_rfl) ?_
    clear hF; intro a hF
    refine L_call hF (by kernel_rfl) (by kernel_rfl) (by kernel_rfl) (by kernel_rfl) (ref04_Right n W9) ?_
    clear hF; rintro _ W10 a ⟨rfl, hk⟩ hF
    replace hO := hO.call0 hk; clear hk
    refine L_val hF (by kernel_rfl) (by kernel_rfl) (v := .bool true) (x_bool (x := (decide (1 ≤ n ∧ n ≤ 65535)) == (decide (1 ≤ n ∧ n ≤ 65535))) (beq_self_eq_true _) (by kernel_rfl)) (by kernel_rfl) ?_
    clear hF; intro a hF
    refine L_val hF (by kernel_rfl) (by kernel_rfl) (v := .bool true) (by kernel_rfl) (by kernel_rfl) ?_
    clear hF; intro a hF
    refine L_val hF (by kernel_rfl) (by kernel_rfl) (v := .int .i64 (n)) (by kernel_rfl) (by kernel_rfl) ?_
    clear hF; intro a hF
    refine L_call hF (by kernel_rfl) (by kernel_rfl) (by kernel_rfl) (by kernel_rfl) (ports_Proto n W10) ?_
    clear hF; rintro _ W11 a ⟨rfl, hk⟩ hF
    replace hO := hO.call0 hk; clear hk
    refine L_val hF (by kernel_rfl) (by kernel_rfl) (v := .int .i64 (n)) (by kernel_rfl) (by kernel_rfl) ?_
    clear hF; intro a hF
    refine L_call hF (by kernel_rfl) (by kernel_rfl) (by kernel_rfl) (by kernel_rfl) (ref04_Proto n W11) ?_
    clear hF; rintro _ W12 a ⟨rfl, hk⟩ hF
    replace hO := hO.call0 hk; clear hk
    refine L_val hF (by kernel_rfl) (by kernel_rfl) (v := .bool true) (x_bool (x := (decide (n = 6 ∨ n = 17)) == (decide (n = 6 ∨ n = 17))) (beq_self_eq_true _) (by kernel_rfl)) (by kernel_rfl) ?_
    clear hF; intro a hF
    refine L_val hF (by kernel_rfl) (by kernel_rfl) (v := .bool true) (by kernel_rfl) (by kernel_rfl) ?_
    clear hF; intro a hF
    refine L_val hF (by kernel_rfl) (by kernel_rfl) (v := .bool true) (by kernel_rfl) (by kernel_rfl) ?_
    clear hF; intro a hF
    refine L_val hF (by kernel_rfl) (by kernel_rfl) (v := .int .i64 (n)) (by kernel_rfl) (by kernel_rfl) ?_
    clear hF; intro a hF
    refine L_call hF (by kernel_rfl) (by kernel_rfl) (by kernel_rfl) (by kernel_rfl) ((ports_Word n W12).mono fun v W' h => (⟨by rw [h.1, if_pos h6], h.2⟩ : v = .string ⟨#[116, 99, 112]⟩ ∧ Own W12 noX [] W')) ?_
    clear hF; rintro _ W13 a ⟨rfl, hk⟩ hF
    replace hO := hO.call0 hk; clear hk
    refine L_val hF (by kernel_rfl) (by kernel_rfl) (v := .string (⟨#[116, 99, 112]⟩ : ByteArray)) (by kernel_rfl) (by kernel_rfl) ?_
    clear hF; intro a hF
    refine L_val hF (by kernel_rfl) (by kernel_rfl) (v := .bool true) (x_bool (x := strEq (⟨#[116, 99, 112]⟩ : ByteArray) (⟨#[116, 99, 112]⟩ : ByteArray)) (strEq_refl _) (by kernel_rfl)) (by kernel_rfl) ?_
    clear hF; intro a hF
    refine L_val hF (by kernel_rfl) (by kernel_rfl) (v := .bool true) (by kernel_rfl) (by kernel_rfl) ?_
    clear hF; intro a hF
    refine L_val hF (by kernel_rfl) (by kernel_rfl) (v := .bool true) (by kernel_rfl) (by kernel_rfl) ?_
    clear hF; intro a hF
    refine L_val hF (by kernel_rfl) (by kernel_rfl) (v := .int .i64 17) (by kernel_rfl) (by kernel_rfl) ?_
    clear hF; intro a hF
    refine L_val hF (by kernel_rfl) (by kernel_rfl) (v := .int .i64 17) (by kernel_rfl) (by kernel_rfl) ?_
    clear hF; intro a hF
    refine L_val hF (by kernel_rfl) (by kernel_rfl) (v := .bool true) (by kernel_rfl) (by kernel_rfl) ?_
    clear hF; intro a hF
    refine L_val hF (by kernel_rfl) (by kernel_rfl) (v := .bool true) (by kernel_rfl) (by kernel_rfl) ?_
    clear hF; intro a hF
    refine L_val hF (by kernel_rfl) (by kernel_rfl) (v := .bool true) (by kernel_rfl) (by kernel_rfl) ?_
    clear hF; intro a hF
    refine L_val hF (by kernel_rfl) (by kernel_rfl) (v := .nilIface) (by kernel_rfl) (by kernel_rfl) ?_
    clear hF; intro a hF
    refine L_call hF (by kernel_rfl) (by kernel_rfl) (by kernel_rfl) (by kernel_rfl) (num_nil W13) ?_
    clear hF; rintro _ W14 a ⟨rfl, hk⟩ hF
    replace hO := hO.call0 hk; clear hk
    refine L_val hF (by kernel_rfl) (by kernel_rfl) (v := .int .i64 0) (by kernel_rfl) (by kernel_rfl) ?_
    clear hF; intro a hF
    refine L_val hF (by kernel_rfl) (by kernel_rfl) (v := .bool true) (by kernel_rfl) (by kernel_rfl) ?_
    clear hF; intro a hF
    refine L_val hF (by kernel_rfl) (by kernel_rfl) (v := .bool true) (by kernel_rfl) (by kernel_rfl) ?_
    clear hF; intro a hF
    refine L_val hF (by kernel_rfl) (by kernel_rfl) (v := .bool true) (by kernel_rfl) (by kernel_rfl) ?_
    clear hF; intro a hF
    refine L_nil ?_
    refine hK24 _ _ ?_
    refine wp_ret ?_
    -- way 2: n = 6; ¬ n = 17
    refine ret1 hF (v := .bool true) rfl (resT (by kernel_rfl)) (by refine ⟨?_, hO.nil⟩; first | rfl | (exfalso; omega)) .ret (.inl rfl)

set_option maxRecDepth 20000 in
theorem law04_PortsWords11 (I : List Nat) (ea : Nat → Addr) (n : Int) (W : World) (hG : LibW W) (hE : Errs I ea W) (h3 : I.contains 3 = true) (h16 : I.contains 16 = true) (hI : I = errIs) (h6 : ¬ n = 6) (h17 : n = 17) : Ret Tryz.prog 3 #[.int .i64 (n), .string (⟨#[117, 100, 112]⟩ : ByteArray)] W fun v W' => v = .bool true ∧ Own W noX [] W' := by
  refine enter Tryz.func3 rfl (n := 57) rfl (by kernel_rfl) (E0 := [(1, .string (⟨#[117, 100, 112]⟩ : ByteArray)), (0, .int .i64 (n))]) (by kernel_rfl) ?_
  intro a hF; have hO := Own.start W noX
  refine wp_seq_k fun K1 hK1 => ?_
  refine wp_region_lit ?_
  refine L_val hF (by kernel_rfl) (by kernel_rfl) (v := .bool false) (by kernel_rfl) (by kernel_rfl) ?_
  clear hF; intro a hF
  refine L_nil ?_
  refine hK1 _ _ ?_
  refine wp_seq_k fun K2 hK2 => ?_
  refine wp_seq_k fun K3 hK3 => ?_
  refine wp_region_lit ?_
  refine L_call hF (by kernel_rfl) (by kernel_rfl) (by kernel_rfl) (by kernel_rfl) (law04_alive I ea W (hG.own hO) (hE.own hO) h3) ?_
  clear hF; rintro _ W1 a ⟨rfl, hk⟩ hF
  replace hO := hO.call0 hk; clear hk
  refine L_val hF (by kernel_rfl) (by kernel_rfl) (v := .bool false) (by kernel_rfl) (by kernel_rfl) ?_
  clear hF; intro a hF
  refine L_nil ?_
  refine hK3 _ _ ?_
  refine cond_f hF (by kernel_rfl) (by kernel_rfl) ?_
  refine wp_skip ?_
  refine hK2 _ _ ?_
  refine wp_seq_k fun K4 hK4 => ?_
  refine wp_seq_k fun K5 hK5 => ?_
  refine wp_region_lit ?_
  refine L_val hF (by kernel_rfl) (by kernel_rfl) (v := .string (⟨#[117, 100, 112]⟩ : ByteArray)) (by kernel_rfl) (by kernel_rfl) ?_
  clear hF; intro a hF
  refine L_val hF (by kernel_rfl) (by kernel_rfl) (v := .int .i64 3) (by kernel_rfl) (by kernel_rfl) ?_
  clear hF; intro a hF
  refine L_val hF (by kernel_rfl) (by kernel_rfl) (v := .bool false) (by kernel_rfl) (by kernel_rfl) ?_
  clear hF; intro a hF
  refine L_nil ?_
  refine hK5 _ _ ?_
  refine cond_f hF (by kernel_rfl) (by kernel_rfl) ?_
  refine wp_skip ?_
  refine hK4 _ _ ?_
  refine wp_seq_k fun K6 hK6 => ?_
  refine wp_region_lit ?_
  refine L_val hF (by kernel_rfl) (by kernel_rfl) (v := .string (⟨#[]⟩ : ByteArray)) (by kernel_rfl) (by kernel_rfl) ?_
  clear hF; intro a hF
  refine L_nil ?_
  refine hK6 _ _ ?_
  refine wp_seq_k fun K7 hK7 => ?_
  refine wp_seq_k fun K8 hK8 => ?_
  refine wp_region_lit ?_
  refine L_val hF (by kernel_rfl) (by kernel_rfl) (v := .int .i64 (n)) (by kernel_rfl) (by kernel_rfl) ?_
  clear hF; intro a hF
  refine L_val hF (by kernel_rfl) (by kernel_rfl) (v := .bool (n == 6)) (by kernel_rfl) (by kernel_rfl) ?_
  clear hF; intro a hF
  refine L_nil ?_
  refine hK8 _ _ ?_
  replace hF := hF.know (d := 16) (v' := .bool false) (by kernel_rfl) (congrArg Value.bool (eqF h6))
  refine cond_f hF (by kernel_rfl) (by kernel_rfl) ?_
  refine wp_skip ?_
  refine hK7 _ _ ?_
  refine wp_seq_k fun K9 hK9 => ?_
  refine wp_seq_k fun K10 hK10 => ?_
  refine wp_region_lit ?_
  refine L_val hF (by kernel_rfl) (by kernel_rfl) (v := .int .i64 (n)) (by kernel_rfl) (by kernel_rfl) ?_
  clear hF; intro a hF
  refine L_val hF (by kernel_rfl) (by kernel_rfl) (v := .bool (n == 17)) (by kernel_rfl) (by kernel_rfl) ?_
  clear hF; intro a hF
  refine L_nil ?_
  refine hK10 _ _ ?_
  replace hF := hF.know (d := 18) (v' := .bool true) (by kernel_rfl) (congrArg Value.bool (eqT h17))
  refine cond_t hF (by kernel_rfl) (by kernel_rfl) ?_
  refine wp_region_lit ?_
  refine L_val hF (by kernel_rfl) (by kernel_rfl) (v := .string (⟨#[117, 100, 112]⟩ : ByteArray)) (by kernel_rfl) (by kernel_rfl) ?_
  clear hF; intro a hF
  refine L_nil ?_
  refine hK9 _ _ ?_
  refine wp_seq_k fun K11 hK11 => ?_
  refine wp_region_lit ?_
  refine L_val hF (by kernel_rfl) (by kernel_rfl) (v := .string (⟨#[117, 100, 112]⟩ : ByteArray)) (by kernel_rfl) (by kernel_rfl) ?_
  clear hF; intro a hF
  refine L_call hF (by kernel_rfl) (by kernel_rfl) (by kernel_rfl) (by kernel_rfl) (ports_Named1 W1) ?_
  clear hF; rintro _ W2 a ⟨rfl, hk⟩ hF
  replace hO := hO.call0 hk; clear hk
  refine L_val hF (by kernel_rfl) (by kernel_rfl) (v := .tuple #[.int .i64 17, .nilIface]) (by kernel_rfl) (by kernel_rfl) ?_
  clear hF; intro a hF
  refine L_val hF (by kernel_rfl) (by kernel_rfl) (v := .int .i64 17) (by kernel_rfl) (by kernel_rfl) ?_
  clear hF; intro a hF
  refine L_val hF (by kernel_rfl) (by kernel_rfl) (v := .nilIface) (by kernel_rfl) (by kernel_rfl) ?_
  clear hF; intro a hF
  refine L_val hF (by kernel_rfl) (by kernel_rfl) (v := .int .i64 17) (by kernel_rfl) (by kernel_rfl) ?_
  clear hF; intro a hF
  refine L_val hF (by kernel_rfl) (by kernel_rfl) (v := .nilIface) (by kernel_rfl) (by kernel_rfl) ?_
  clear hF; intro a hF
  refine L_nil ?_
  refine hK11 _ _ ?_
  refine wp_seq_k fun K12 hK12 => ?_
  refine wp_region_lit ?_
  refine L_val hF (by kernel_rfl) (by kernel_rfl) (v := .int .i64 0) (by kernel_rfl) (by kernel_rfl) ?_
  clear hF; intro a hF
  refine L_val hF (by kernel_rfl) (by kernel_rfl) (v := .int .i64 17) (by kernel_rfl) (by kernel_rfl) ?_
  clear hF; intro a hF
  refine L_nil ?_
  refine hK12 _ _ ?_
  refine wp_seq_k fun K13 hK13 => ?_
  refine wp_seq_k fun K14 hK14 => ?_
  refine wp_region_lit ?_
  refine L_val hF (by kernel_rfl) (by kernel_rfl) (v := .string (⟨#[117, 100, 112]⟩ : ByteArray)) (by kernel_rfl) (by kernel_rfl) ?_
  clear hF; intro a hF
  refine L_val hF (by kernel_rfl) (by kernel_rfl) (v := .bool false) (by kernel_rfl) (by kernel_rfl) ?_
  clear hF; intro a hF
  refine L_nil ?_
  refine hK14 _ _ ?_
  refine cond_f hF (by kernel_rfl) (by kernel_rfl) ?_
  refine wp_skip ?_
  refine hK13 _ _ ?_
  refine wp_seq_k fun K15 hK15 => ?_
  refine wp_seq_k fun K16 hK16 => ?_
  refine wp_region_lit ?_
  refine L_val hF (by kernel_rfl) (by kernel_rfl) (v := .string (⟨#[117, 100, 112]⟩ : ByteArray)) (by kernel_rfl) (by kernel_rfl) ?_
  clear hF; intro a hF
  refine L_val hF (by kernel_rfl) (by kernel_rfl) (v := .bool true) (x_bool (x := strEq (⟨#[117, 100, 112]⟩ : ByteArray) (⟨#[117, 100, 112]⟩ : ByteArray)) (strEq_refl _) (by kernel_rfl)) (by kernel_rfl) ?_
  clear hF; intro a hF
  refine L_nil ?_
  refine hK16 _ _ ?_
  refine cond_t hF (by kernel_rfl) (by kernel_rfl) ?_
  refine wp_region_lit ?_
  refine L_val hF (by kernel_rfl) (by kernel_rfl) (v := .int .i64 17) (by kernel_rfl) (by kernel_rfl) ?_
  clear hF; intro a hF
  refine L_val hF (by kernel_rfl) (by kernel_rfl) (v := .int .i64 0) (by kernel_rfl) (by kernel_rfl) ?_
  clear hF; intro a hF
  refine L_nil ?_
  refine hK15 _ _ ?_
  refine wp_seq_k fun K17 hK17 => ?_
  refine wp_region_lit ?_
  refine L_val hF (by kernel_rfl) (by kernel_rfl) (v := .int .i64 (n)) (by kernel_rfl) (by kernel_rfl) ?_
  clear hF; intro a hF
  refine L_call hF (by kernel_rfl) (by kernel_rfl) (by kernel_rfl) (by kernel_rfl) (ports_Right n W2) ?_
  clear hF; rintro _ W3 a ⟨rfl, hk⟩ hF
  replace hO := hO.call0 hk; clear hk
  refine L_val hF (by kernel_rfl) (by kernel_rfl) (v := .int .i64 (n)) (by kernel_rfl) (by kernel_rfl) ?_
  clear hF; intro a hF
  refine L_call hF (by kernel_rfl) (by kernel_rfl) (by kernel_rfl) (by kernel_rfl) (ref04_Right n W3) ?_
  clear hF; rintro _ W4 a ⟨rfl, hk⟩ hF
  replace hO := hO.call0 hk; clear hk
  refine L_val hF (by kernel_rfl) (by kernel_rfl) (v := .bool true) (x_bool (x := (decide (1 ≤ n ∧ n ≤ 65535)) == (decide (1 ≤ n ∧ n ≤ 65535))) (beq_self_eq_true _) (by kernel_rfl)) (by kernel_rfl) ?_
  clear hF; intro a hF
  refine L_val hF (by kernel_rfl) (by kernel_rfl) (v := .bool true) (by kernel_rfl) (by kernel_rfl) ?_
  clear hF; intro a hF
  refine L_val hF (by kernel_rfl) (by kernel_rfl) (v := .int .i64 (n)) (by kernel_rfl) (by kernel_rfl) ?_
  clear hF; intro a hF
  refine L_call hF (by kernel_rfl) (by kernel_rfl) (by kernel_rfl) (by kernel_rfl) (ports_Proto n W4) ?_
  clear hF; rintro _ W5 a ⟨rfl, hk⟩ hF
  replace hO := hO.call0 hk; clear hk
  refine L_val hF (by kernel_rfl) (by kernel_rfl) (v := .int .i64 (n)) (by kernel_rfl) (by kernel_rfl) ?_
  clear hF; intro a hF
  refine L_call hF (by kernel_rfl) (by kernel_rfl) (by kernel_rfl) (by kernel_rfl) (ref04_Proto n W5) ?_
  clear hF; rintro _ W6 a ⟨rfl, hk⟩ hF
  replace hO := hO.call0 hk; clear hk
  refine L_val hF (by kernel_rfl) (by kernel_rfl) (v := .bool true) (x_bool (x := (decide (n = 6 ∨ n = 17)) == (decide (n = 6 ∨ n = 17))) (beq_self_eq_true _) (by kernel_rfl)) (by kernel_rfl) ?_
  clear hF; intro a hF
  refine L_val hF (by kernel_rfl) (by kernel_rfl) (v := .bool true) (by kernel_rfl) (by kernel_rfl) ?_
  clear hF; intro a hF
  refine L_val hF (by kernel_rfl) (by kernel_rfl) (v := .bool true) (by kernel_rfl) (by kernel_rfl) ?_
  clear hF; intro a hF
  refine L_val hF (by kernel_rfl) (by kernel_rfl) (v := .int .i64 (n)) (by kernel_rfl) (by kernel_rfl) ?_
  clear hF; intro a hF
  refine L_call hF (by kernel_rfl) (by kernel_rfl) (by kernel_rfl) (by kernel_rfl) ((ports_Word n W6).mono fun v W' h => (⟨by rw [h.1, if_neg h6, if_pos h17], h.2⟩ : v = .string ⟨#[117, 100, 112]⟩ ∧ Own W6 noX [] W')) ?_
  clear hF; rintro _ W7 a ⟨rfl, hk⟩ hF
  replace hO := hO.call0 hk; clear hk
  refine L_val hF (by kernel_rfl) (by kernel_rfl) (v := .string (⟨#[117, 100, 112]⟩ : ByteArray)) (by kernel_rfl) (by kernel_rfl) ?_
  clear hF; intro a hF
  refine L_val hF (by kernel_rfl) (by kernel_rfl) (v := .bool true) (x_bool (x := strEq (⟨#[117, 100, 112]⟩ : ByteArray) (⟨#[117, 100, 112]⟩ : ByteArray)) (strEq_refl _) (by kernel_rfl)) (by kernel_rfl) ?_
  clear hF; intro a hF
  refine L_val hF (by kernel_rfl) (by kernel_rfl) (v := .bool true) (by kernel_rfl) (by kernel_rfl) ?_
  clear hF; intro a hF
  refine L_val hF (by kernel_rfl) (by kernel_rfl) (v := .bool true) (by kernel_rfl) (by kernel_rfl) ?_
  clear hF; intro a hF
  refine L_val hF (by kernel_rfl) (by kernel_rfl) (v := .int .i64 17) (by kernel_rfl) (by kernel_rfl) ?_
  clear hF; intro a hF
  refine L_val hF (by kernel_rfl) (by kernel_rfl) (v := .int .i64 17) (by kernel_rfl) (by kernel_rfl) ?_
  clear hF; intro a hF
  refine L_val hF (by kernel_rfl) (by kernel_rfl) (v := .bool true) (by kernel_rfl) (by kernel_rfl) ?_
  clear hF; intro a hF
  refine L_val hF (by kernel_rfl) (by kernel_rfl) (v := .bool true) (by kernel_rfl) (by kernel_rfl) ?_
  clear hF; intro a hF
  refine L_val hF (by kernel_rfl) (by kernel_rfl) (v := .bool true) (by kernel_rfl) (by kernel_rfl) ?_
  clear hF; intro a hF
  refine L_val hF (by kernel_rfl) (by kernel_rfl) (v := .nilIface) (by kernel_rfl) (by kernel_rfl) ?_
  clear hF; intro a hF
  refine L_call hF (by kernel_rfl) (by kernel_rfl) (by kernel_rfl) (by kernel_rfl) (num_nil W7) ?_
  clear hF; rintro _ W8 a ⟨rfl, hk⟩ hF
  replace hO := hO.call0 hk; clear hk
  refine L_val hF (by kernel_rfl) (by kernel_rfl) (v := .int .i64 0) (by kernel_rfl) (by kernel_rfl) ?_
  clear hF; intro a hF
  refine L_val hF (by kernel_rfl) (by kernel_rfl) (v := .bool true) (by kernel_rfl) (by kernel_rfl) ?_
  clear hF; intro a hF
  refine L_val hF (by kernel_rfl) (by kernel_rfl) (v := .bool true) (by kernel_rfl) (by kernel_rfl) ?_
  clear hF; intro a hF
  refine L_val hF (by kernel_rfl) (by kernel_rfl) (v := .bool true) (by kernel_rfl) (by kernel_rfl) ?_
  clear hF; intro a hF
  refine L_nil ?_
  refine hK17 _ _ ?_
  refine wp_ret ?_
  -- way 1: ¬ n = 6; n = 17
  refine ret1 hF (v := .bool true) rfl (resT (by kernel_rfl)) (by refine ⟨?_, hO.nil⟩; first | rfl | (exfalso; omega)) .ret (.inl rfl)

set_option maxRecDepth 20000 in
theorem law04_PortsWords12 (I : List Nat) (ea : Nat → Addr) (n : Int) (W : World) (hG : LibW W) (hE : Errs I ea W) (h3 : I.contains 3 = true) (h16 : I.contains 16 = true) (hI : I = errIs) (h6 : ¬ n = 6) (h17 : ¬ n = 17) : Ret Tryz.prog 3 #[.int .i64 (n), .string (⟨#[117, 100, 112]⟩ : ByteArray)] W fun v W' => v = .bool true ∧ Own W noX [] W' := by
  refine enter Tryz.func3 rfl (n := 57) rfl (by kernel_rfl) (E0 := [(1, .string (⟨#[117, 100, 112]⟩ : ByteArray)), (0, .int .i64 (n))]) (by kernel_rfl) ?_
  intro a hF; have hO := Own.start W noX
  refine wp_seq_k fun K1 hK1 => ?_
  refine wp_region_lit ?_
  refine L_val hF (by kernel_rfl) (by kernel_rfl) (v := .bool false) (by kernel_rfl) (by kernel_rfl) ?_
  clear hF; intro a hF
  refine L_nil ?_
  refine hK1 _ _ ?_
  refine wp_seq_k fun K2 hK2 => ?_
  refine wp_seq_k fun K3 hK3 => ?_
  refine wp_region_lit ?_
  refine L_call hF (by kernel_rfl) (by kernel_rfl) (by kernel_rfl) (by kernel_rfl) (law04_alive I ea W (hG.own hO) (hE.own hO) h3) ?_
  clear hF; rintro _ W1 a ⟨rfl, hk⟩ hF
  replace hO := hO.call0 hk; clear hk
  refine L_val hF (by kernel_rfl) (by kernel_rfl) (v := .bool false) (by kernel_rfl) (by kernel_rfl) ?_
  clear hF; intro a hF
  refine L_nil ?_
  refine hK3 _ _ ?_
  refine cond_f hF (by kernel_rfl) (by kernel_rfl) ?_
  refine wp_skip ?_
  refine hK2 _ _ ?_
  refine wp_seq_k fun K4 hK4 => ?_
  refine wp_seq_k fun K5 hK5 => ?_
  refine wp_region_lit ?_
  refine L_val hF (by kernel_rfl) (by kernel_rfl) (v := .string (⟨#[117, 100, 112]⟩ : ByteArray)) (by kernel_rfl) (by kernel_rfl) ?_
  clear hF; intro a hF
  refine L_val hF (by kernel_rfl) (by kernel_rfl) (v := .int .i64 3) (by kernel_rfl) (by kernel_rfl) ?_
  clear hF; intro a hF
  refine L_val hF (by kernel_rfl) (by kernel_rfl) (v := .bool false) (by kernel_rfl) (by kernel_rfl) ?_
  clear hF; intro a hF
  refine L_nil ?_
  refine hK5 _ _ ?_
  refine cond_f hF (by kernel_rfl) (by kernel_rfl) ?_
  refine wp_skip ?_
  refine hK4 _ _ ?_
  refine wp_seq_k fun K6 hK6 => ?_
  refine wp_region_lit ?_
  refine L_val hF (by kernel_rfl) (by kernel_rfl) (v := .string (⟨#[]⟩ : ByteArray)) (by kernel_rfl) (by kernel_rfl) ?_
  clear hF; intro a hF
  refine L_nil ?_
  refine hK6 _ _ ?_
  refine wp_seq_k fun K7 hK7 => ?_
  refine wp_seq_k fun K8 hK8 => ?_
  refine wp_region_lit ?_
  refine L_val hF (by kernel_rfl) (by kernel_rfl) (v := .int .i64 (n)) (by kernel_rfl) (by kernel_rfl) ?_
  clear hF; intro a hF
  refine L_val hF (by kernel_rfl) (by kernel_rfl) (v := .bool (n == 6)) (by kernel_rfl) (by kernel_rfl) ?_
  clear hF; intro a hF
  refine L_nil ?_
  refine hK8 _ _ ?_
  replace hF := hF.know (d := 16) (v' := .bool false) (by kernel_rfl) (congrArg Value.bool (eqF h6))
  refine cond_f hF (by kernel_rfl) (by kernel_rfl) ?_
  refine wp_skip ?_
  refine hK7 _ _ ?_
  refine wp_seq_k fun K9 hK9 => ?_
  refine wp_seq_k fun K10 hK10 => ?_
  refine wp_region_lit ?_
  refine L_val hF (by kernel_rfl) (by kernel_rfl) (v := .int .i64 (n)) (by kernel_rfl) (by kernel_rfl) ?_
  clear hF; intro a hF
  refine L_val hF (by kernel_rfl) (by kernel_rfl) (v := .bool (n == 17)) (by kernel_rfl) (by kernel_rfl) ?_
  clear hF; intro a hF
  refine L_nil ?_
  refine hK10 _ _ ?_
  replace hF := hF.know (d := 18) (v' := .bool false) (by kernel_rfl) (congrArg Value.bool (eqF h17))
  refine cond_f hF (by kernel_rfl) (by kernel_rfl) ?_
  refine wp_skip ?_
  refine hK9 _ _ ?_
  refine wp_seq_k fun K11 hK11 => ?_
  refine wp_region_lit ?_
  refine L_val hF (by kernel_rfl) (by kernel_rfl) (v := .string (⟨#[117, 100, 112]⟩ : ByteArray)) (by kernel_rfl) (by kernel_rfl) ?_
  clear hF; intro a hF
  refine L_call hF (by kernel_rfl) (by kernel_rfl) (by kernel_rfl) (by kernel_rfl) (ports_Named1 W1) ?_
  clear hF; rintro _ W2 a ⟨rfl, hk⟩ hF
  replace hO := hO.call0 hk; clear hk
  refine L_val hF (by kernel_rfl) (by kernel_rfl) (v := .tuple #[.int .i64 17, .nilIface]) (by kernel_rfl) (by kernel_rfl) ?_
  clear hF; intro a hF
  refine L_val hF (by kernel_rfl) (by kernel_rfl) (v := .int .i64 17) (by kernel_rfl) (by kernel_rfl) ?_
  clear hF; intro a hF
  refine L_val hF (by kernel_rfl) (by kernel_rfl) (v := .nilIface) (by kernel_rfl) (by kernel_rfl) ?_
  clear hF; intro a hF
  refine L_val hF (by kernel_rfl) (by kernel_rfl) (v := .int .i64 17) (by kernel_rfl) (by kernel_rfl) ?_
  clear hF; intro a hF
  refine L_val hF (by kernel_rfl) (by kernel_rfl) (v := .nilIface) (by kernel_rfl) (by kernel_rfl) ?_
  clear hF; intro a hF
  refine L_nil ?_
  refine hK11 _ _ ?_
  refine wp_seq_k fun K12 hK12 => ?_
  refine wp_region_lit ?_
  refine L_val hF (by kernel_rfl) (by kernel_rfl) (v := .int .i64 0) (by kernel_rfl) (by kernel_rfl) ?_
  clear hF; intro a hF
  refine L_val hF (by kernel_rfl) (by kernel_rfl) (v := .int .i64 17) (by kernel_rfl) (by kernel_rfl) ?_
  clear hF; intro a hF
  refine L_nil ?_
  refine hK12 _ _ ?_
  refine wp_seq_k fun K13 hK13 => ?_
  refine wp_seq_k fun K14 hK14 => ?_
  refine wp_region_lit ?_
  refine L_val hF (by kernel_rfl) (by kernel_rfl) (v := .string (⟨#[117, 100, 112]⟩ : ByteArray)) (by kernel_rfl) (by kernel_rfl) ?_
  clear hF; intro a hF
  refine L_val hF (by kernel_rfl) (by kernel_rfl) (v := .bool false) (by kernel_rfl) (by kernel_rfl) ?_
  clear hF; intro a hF
  refine L_nil ?_
  refine hK14 _ _ ?_
  refine cond_f hF (by kernel_rfl) (by kernel_rfl) ?_
  refine wp_skip ?_
  refine hK13 _ _ ?_
  refine wp_seq_k fun K15 hK15 => ?_
  refine wp_seq_k fun K16 hK16 => ?_
  refine wp_region_lit ?_
  refine L_val hF (by kernel_rfl) (by kernel_rfl) (v := .string (⟨#[117, 100, 112]⟩ : ByteArray)) (by kernel_rfl) (by kernel_rfl) ?_
  clear hF; intro a hF
  refine L_val hF (by kernel_rfl) (by kernel_rfl) (v := .bool true) (x_bool (x := strEq (⟨#[117, 100, 112]⟩ : ByteArray) (⟨#[117, 100, 112]⟩ : ByteArray)) (strEq_refl _) (by kernel_rfl)) (by kernel_rfl) ?_
  clear hF; intro a hF
  refine L_nil ?_
  refine hK16 _ _ ?_
  refine cond_t hF (by kernel_rfl) (by kernel_rfl) ?_
  refine wp_region_lit ?_
  refine L_val hF (by kernel_rfl) (by kernel_rfl) (v := .int .i64 17) (by kernel_rfl) (by kernel_rfl) ?_
  clear hF; intro a hF
  refine L_val hF (by kernel_rfl) (by kernel_rfl) (v := .int .i64 0) (by kernel_rfl) (by kernel_rfl) ?_
  clear hF; intro a hF
  refine L_nil ?_
  refine hK15 _ _ ?_
  refine wp_seq_k fun K17 hK17 => ?_
  refine wp_region_lit ?_
  refine L_val hF (by kernel_rfl) (by kernel_rfl) (v := .int .i64 (n)) (by kernel_rfl) (by kernel_rfl) ?_
  clear hF; intro a hF
  refine L_call hF (by kernel_rfl) (by kernel_rfl) (by kernel_rfl) (by kernel_rfl) (ports_Right n W2) ?_
  clear hF; rintro _ W3 a ⟨rfl, hk⟩ hF
  replace hO := hO.call0 hk; clear hk
  refine L_val hF (by kernel_rfl) (by kernel_rfl) (v := .int .i64 (n)) (by kernel_rfl) (by kernel_rfl) ?_
  clear hF; intro a hF
  refine L_call hF (by kernel_rfl) (by kernel_rfl) (by kernel_rfl) (by kernel_rfl) (ref04_Right n W3) ?_
  clear hF; rintro _ W4 a ⟨rfl, hk⟩ hF
  replace hO := hO.call0 hk; clear hk
  refine L_val hF (by kernel_rfl) (by kernel_rfl) (v := .bool true) (x_bool (x := (decide (1 ≤ n ∧ n ≤ 65535)) == (decide (1 ≤ n ∧ n ≤ 65535))) (beq_self_eq_true _) (by kernel_rfl)) (by kernel_rfl) ?_
  clear hF; intro a hF
  refine L_val hF (by kernel_rfl) (by kernel_rfl) (v := .bool true) (by kernel_rfl) (by kernel_rfl) ?_
  clear hF; intro a hF
  refine L_val hF (by kernel_rfl) (by kernel_rfl) (v := .int .i64 (n)) (by kernel_rfl) (by kernel_rfl) ?_
  clear hF; intro a hF
  refine L_call hF (by kernel_rfl) (by kernel_rfl) (by kernel_rfl) (by kernel_rfl) (ports_Proto n W4) ?_
  clear hF; rintro _ W5 a ⟨rfl, hk⟩ hF
  replace hO := hO.call0 hk; clear hk
  refine L_val hF (by kernel_rfl) (by kernel_rfl) (v := .int .i64 (n)) (by kernel_rfl) (by kernel_rfl) ?_
  clear hF; intro a hF
  refine L_call hF (by kernel_rfl) (by kernel_rfl) (by kernel_rfl) (by kernel_rfl) (ref04_Proto n W5) ?_
  clear hF; rintro _ W6 a ⟨rfl, hk⟩ hF
  replace hO := hO.call0 hk; clear hk
  refine L_val hF (by kernel_rfl) (by kernel_rfl) (v := .bool true) (x_bool (x := (decide (n = 6 ∨ n = 17)) == (decide (n = 6 ∨ n = 17))) (beq_self_eq_true _) (by kernel_rfl)) (by kernel_rfl) ?_
  clear hF; intro a hF
  refine L_val hF (by kernel_rfl) (by kernel_rfl) (v := .bool true) (by kernel_rfl) (by kernel_rfl) ?_
  clear hF; intro a hF
  refine L_val hF (by kernel_rfl) (by kernel_rfl) (v := .bool true) (by kernel_rfl) (by kernel_rfl) ?_
  clear hF; intro a hF
  refine L_val hF (by kernel_rfl) (by kernel_rfl) (v := .int .i64 (n)) (by kernel_rfl) (by kernel_rfl) ?_
  clear hF; intro a hF
  refine L_call hF (by kernel_rfl) (by kernel_rfl) (by kernel_rfl) (by kernel_rfl) ((ports_Word n W6).mono fun v W' h => (⟨by rw [h.1, if_neg h6, if_neg h17], h.2⟩ : v = .string ⟨#[]⟩ ∧ Own W6 noX [] W')) ?_
  clear hF; rintro _ W7 a ⟨rfl, hk⟩ hF
  replace hO := hO.call0 hk; clear hk
  refine L_val hF (by kernel_rfl) (by kernel_rfl) (v := .string (⟨#[]⟩ : ByteArray)) (by kernel_rfl) (by kernel_rfl) ?_
  clear hF; intro a hF
  refine L_val hF (by kernel_rfl) (by kernel_rfl) (v := .bool true) (x_bool (x := strEq (⟨#[]⟩ : ByteArray) (⟨#[]⟩ : ByteArray)) (strEq_refl _) (by kernel_rfl)) (by kernel_rfl) ?_
  clear hF; intro a hF
  refine L_val hF (by kernel_rfl) (by kernel_rfl) (v := .bool true) (by kernel_rfl) (by kernel_rfl) ?_
  clear hF; intro a hF
  refine L_val hF (by kernel_rfl) (by kernel_rfl) (v := .bool true) (by kernel_rfl) (by kernel_rfl) ?_
  clear hF; intro a hF
  refine L_val hF (by kernel_rfl) (by kernel_rfl) (v := .int .i64 17) (by kernel_rfl) (by kernel_rfl) ?_
  clear hF; intro a hF
  refine L_val hF (by kernel_rfl) (by kernel_rfl) (v := .int .i64 17) (by kernel_rfl) (by kernel_rfl) ?_
  clear hF; intro a hF
  refine L_val hF (by kernel_rfl) (by kernel_rfl) (v := .bool true) (by kernel_rfl) (by kernel_rfl) ?_
  clear hF; intro a hF
  refine L_val hF (by kernel_rfl) (by kernel_rfl) (v := .bool true) (by kernel_rfl) (by kernel_rfl) ?_
  clear hF; intro a hF
  refine L_val hF (by kernel_rfl) (by kernel_rfl) (v := .bool true) (by kernel_rfl) (by kernel_rfl) ?_
  clear hF; intro a hF
  refine L_val hF (by kernel_rfl) (by kernel_rfl) (v := .nilIface) (by kernel_rfl) (by kernel_rfl) ?_
  clear hF; intro a hF
  refine L_call hF (by kernel_rfl) (by kernel_rfl) (by kernel_rfl) (by kernel_rfl) (num_nil W7) ?_
  clear hF; rintro _ W8 a ⟨rfl, hk⟩ hF
  replace hO := hO.call0 hk; clear hk
  refine L_val hF (by kernel_rfl) (by kernel_rfl) (v := .int .i64 0) (by kernel_rfl) (by kernel_rfl) ?_
  clear hF; intro a hF
  refine L_val hF (by kernel_rfl) (by kernel_rfl) (v := .bool true) (by kernel_rfl) (by kernel_rfl) ?_
  clear hF; intro a hF
  refine L_val hF (by kernel_rfl) (by kernel_rfl) (v := .bool true) (by kernel_rfl) (by kernel_rfl) ?_
  clear hF; intro a hF
  refine L_val hF (by kernel_rfl) (by kernel_rfl) (v := .bool true) (by kernel_rfl) (by kernel_rfl) ?_
  clear hF; intro a hF
  refine L_nil ?_
  refine hK17 _ _ ?_
  refine wp_ret ?_
  -- way 1: ¬ n = 6; ¬ n = 17
  refine ret1 hF (v := .bool true) rfl (resT (by kernel_rfl)) (by refine ⟨?_, hO.nil⟩; first | rfl | (exfalso; omega)) .ret (.inl rfl)

set_option maxRecDepth 20000 in
theorem law04_PortsWords20 (I : List Nat) (ea : Nat → Addr) (n : Int) (s : ByteArray) (W : World) (hG : LibW W) (hE : Errs I ea W) (h3 : I.contains 3 = true) (h16 : I.contains 16 = true) (hI : I = errIs) (h6 : n = 6) (hw1 : ¬ s = ⟨#[116, 99, 112]⟩) (hw2 : ¬ s = ⟨#[117, 100, 112]⟩) : Ret Tryz.prog 3 #[.int .i64 (n), .string s] W fun v W' => v = .bool true ∧ Own W noX [] W' := by
  refine enter Tryz.func3 rfl (n := 57) rfl (by kernel_rfl) (E0 := [(1, .string s), (0, .int .i64 (n))]) (by kernel_rfl) ?_
  intro a hF; have hO := Own.start W noX
  refine wp_seq_k fun K1 hK1 => ?_
  refine wp_region_lit ?_
  refine L_val hF (by kernel_rfl) (by kernel_rfl) (v := .bool false) (by kernel_rfl) (by kernel_rfl) ?_
  clear hF; intro a hF
  refine L_nil ?_
  refine hK1 _ _ ?_
  refine wp_seq_k fun K2 hK2 => ?_
  refine wp_seq_k fun K3 hK3 => ?_
  refine wp_region_lit ?_
  refine L_call hF (by kernel_rfl) (by kernel_rfl) (by kernel_rfl) (by kernel_rfl) (law04_alive I ea W (hG.own hO) (hE.own hO) h3) ?_
  clear hF; rintro _ W1 a ⟨rfl, hk⟩ hF
  replace hO := hO.call0 hk; clear hk
  refine L_val hF (by kernel_rfl) (by kernel_rfl) (v := .bool false) (by kernel_rfl) (by kernel_rfl) ?_
  clear hF; intro a hF
  refine L_nil ?_
  refine hK3 _ _ ?_
  refine cond_f hF (by kernel_rfl) (by kernel_rfl) ?_
  refine wp_skip ?_
  refine hK2 _ _ ?_
  refine wp_seq_k fun K4 hK4 => ?_
  refine wp_seq_k fun K5 hK5 => ?_
  refine wp_region_lit ?_
  refine L_val hF (by kernel_rfl) (by kernel_rfl) (v := .string s) (by kernel_rfl) (by kernel_rfl) ?_
  clear hF; intro a hF
  refine L_val hF (by kernel_rfl) (by kernel_rfl) (v := .int .i64 ((s.size : Int))) (by kernel_rfl) (by kernel_rfl) ?_
  clear hF; intro a hF
  refine L_val hF (by kernel_rfl) (by kernel_rfl) (v := .bool (decide ((s.size : Int) > 100))) (by kernel_rfl) (by kernel_rfl) ?_
  clear hF; intro a hF
  refine L_nil ?_
  refine hK5 _ _ ?_
  by_cases q1 : (s.size : Int) > 100
  ·
    replace hF := hF.know (d := 14) (v' := .bool true) (by kernel_rfl) (congrArg Value.bool (decide_eq_true q1))
    refine cond_t hF (by kernel_rfl) (by kernel_rfl) ?_
    refine wp_seq_k fun K6 hK6 => ?_
    refine wp_region_lit ?_
    refine L_val hF (by kernel_rfl) (by kernel_rfl) (v := .bool true) (by kernel_rfl) (by kernel_rfl) ?_
    clear hF; intro a hF
    refine L_nil ?_
    refine hK6 _ _ ?_
    refine wp_ret ?_
    refine then_ret ?_
    -- way 1: n = 6; ¬ s = (⟨#[116, 99, 112]⟩ : ByteArray); ¬ s = (⟨#[117, 100, 112]⟩ : ByteArray); (s.size : Int) > 100
    refine ret1 hF (v := .bool true) rfl (resT (by kernel_rfl)) (by refine ⟨?_, hO.nil⟩; first | rfl | (exfalso; omega)) .ret (.inl rfl)
  ·
    replace hF := hF.know (d := 14) (v' := .bool false) (by kernel_rfl) (congrArg Value.bool (decide_eq_false q1))
    refine cond_f hF (by kernel_rfl) (by kernel_rfl) ?_
    refine wp_skip ?_
    refine hK4 _ _ ?_
    refine wp_seq_k fun K7 hK7 => ?_
    refine wp_region_lit ?_
    refine L_val hF (by kernel_rfl) (by kernel_rfl) (v := .string (⟨#[]⟩ : ByteArray)) (by kernel_rfl) (by kernel_rfl) ?_
    clear hF; intro a hF
    refine L_nil ?_
    refine hK7 _ _ ?_
    refine wp_seq_k fun K8 hK8 => ?_
    refine wp_seq_k fun K9 hK9 => ?_
    refine wp_region_lit ?_
    refine L_val hF (by kernel_rfl) (by kernel_rfl) (v := .int .i64 (n)) (by kernel_rfl) (by kernel_rfl) ?_
    clear hF; intro a hF
    refine L_val hF (by kernel_rfl) (by kernel_rfl) (v := .bool (n == 6)) (by kernel_rfl) (by kernel_rfl) ?_
    clear hF; intro a hF
    refine L_nil ?_
    refine hK9 _ _ ?_
    replace hF := hF.know (d := 16) (v' := .bool true) (by kernel_rfl) (congrArg Value.bool (eqT h6))
    refine cond_t hF (by kernel_rfl) (by kernel_rfl) ?_
    refine wp_region_lit ?_
    refine L_val hF (by kernel_rfl) (by kernel_rfl) (v := .string (⟨#[116, 99, 112]⟩ : ByteArray)) (by kernel_rfl) (by kernel_rfl) ?_
    clear hF; intro a hF
    refine L_nil ?_
    refine hK8 _ _ ?_
    refine wp_seq_k fun K10 hK10 => ?_
    refine wp_seq_k fun K11 hK11 => ?_
    refine wp_region_lit ?_
    refine L_val hF (by kernel_rfl) (by kernel_rfl) (v := .int .i64 (n)) (by kernel_rfl) (by kernel_rfl) ?_
    clear hF; intro a hF
    refine L_val hF (by kernel_rfl) (by kernel_rfl) (v := .bool (n == 17)) (by kernel_rfl) (by kernel_rfl) ?_
    clear hF; intro a hF
    refine L_nil ?_
    refine hK11 _ _ ?_
    by_cases q2 : n = 17
    ·
      replace hF := hF.know (d := 18) (v' := .bool true) (by kernel_rfl) (congrArg Value.bool (eqT q2))
      refine cond_t hF (by kernel_rfl) (by kernel_rfl) ?_
      refine wp_region_lit ?_
      refine L_val hF (by kernel_rfl) (by kernel_rfl) (v := .string (⟨#[117, 100, 112]⟩ : ByteArray)) (by kernel_rfl) (by kernel_rfl) ?_
      clear hF; intro a hF
      refine L_nil ?_
      refine hK10 _ _ ?_
      refine wp_seq_k fun K12 hK12 => ?_
      refine wp_region_lit ?_
      refine L_val hF (by kernel_rfl) (by kernel_rfl) (v := .string s) (by kernel_rfl) (by kernel_rfl) ?_
      clear hF; intro a hF
      refine L_call hF (by kernel_rfl) (by kernel_rfl) (by kernel_rfl) (by kernel_rfl) (ports_Named2 I ea s W1 (hE.own hO) h16 hw1 hw2) ?_
      clear hF; rintro _ W2 a ⟨rfl, hk⟩ hF
      replace hO := hO.call0 hk; clear hk
      refine L_val hF (by kernel_rfl) (by kernel_rfl) (v := .tuple #[.int .i64 0, errV ea 16]) (by kernel_rfl) (by kernel_rfl) ?_
      clear hF; intro a hF
      refine L_val hF (by kernel_rfl) (by kernel_rfl) (v := .int .i64 0) (by kernel_rfl) (by kernel_rfl) ?_
      clear hF; intro a hF
      refine L_val hF (by kernel_rfl) (by kernel_rfl) (v := errV ea 16) (by kernel_rfl) (by kernel_rfl) ?_
      clear hF; intro a hF
      refine L_val hF (by kernel_rfl) (by kernel_rfl) (v := .int .i64 0) (by kernel_rfl) (by kernel_rfl) ?_
      clear hF; intro a hF
      refine L_val hF (by kernel_rfl) (by kernel_rfl) (v := errV ea 16) (by kernel_rfl) (by kernel_rfl) ?_
      clear hF; intro a hF
      refine L_nil ?_
      refine hK12 _ _ ?_
      refine wp_seq_k fun K13 hK13 => ?_
      refine wp_region_lit ?_
      refine L_val hF (by kernel_rfl) (by kernel_rfl) (v := .int .i64 0) (by kernel_rfl) (by kernel_rfl) ?_
      clear hF; intro a hF
      refine L_val hF (by kernel_rfl) (by kernel_rfl) (v := .int .i64 17) (by kernel_rfl) (by kernel_rfl) ?_
      clear hF; intro a hF
      refine L_nil ?_
      refine hK13 _ _ ?_
      refine wp_seq_k fun K14 hK14 => ?_
      refine wp_seq_k fun K15 hK15 => ?_
      refine wp_region_lit ?_
      refine L_val hF (by kernel_rfl) (by kernel_rfl) (v := .string s) (by kernel_rfl) (by kernel_rfl) ?_
      clear hF; intro a hF
      refine L_val hF (by kernel_rfl) (by kernel_rfl) (v := .bool (strEq s (⟨#[116, 99, 112]⟩ : ByteArray))) (by kernel_rfl) (by kernel_rfl) ?_
      clear hF; intro a hF
      refine L_nil ?_
      refine hK15 _ _ ?_
      replace hF := hF.know (d := 25) (v' := .bool false) (by kernel_rfl) (congrArg Value.bool (strEq_false.2 hw1))
      refine cond_f hF (by kernel_rfl) (by kernel_rfl) ?_
      refine wp_skip ?_
      refine hK14 _ _ ?_
      refine wp_seq_k fun K16 hK16 => ?_
      refine wp_seq_k fun K17 hK17 => ?_
      refine wp_region_lit ?_
      refine L_val hF (by kernel_rfl) (by kernel_rfl) (v := .string s) (by kernel_rfl) (by kernel_rfl) ?_
      clear hF; intro a hF
      refine L_val hF (by kernel_rfl) (by kernel_rfl) (v := .bool (strEq s (⟨#[117, 100, 112]⟩ : ByteArray))) (by kernel_rfl) (by kernel_rfl) ?_
      clear hF; intro a hF
      refine L_nil ?_
      refine hK17 _ _ ?_
      replace hF := hF.know (d := 27) (v' := .bool false) (by kernel_rfl) (congrArg Value.bool (strEq_false.2 hw2))
      refine cond_f hF (by kernel_rfl) (by kernel_rfl) ?_
      refine wp_skip ?_
      refine hK16 _ _ ?_
      refine wp_seq_k fun K18 hK18 => ?_
      refine wp_region_lit ?_
      refine L_val hF (by kernel_rfl) (by kernel_rfl) (v := .int .i64 (n)) (by kernel_rfl) (by kernel_rfl) ?_
      clear hF; intro a hF
      refine L_call hF (by kernel_rfl) (by kernel_rfl) (by kernel_rfl) (by kernel_rfl) (ports_Right n W2) ?_
      clear hF; rintro _ W3 a ⟨rfl, hk⟩ hF
      replace hO := hO.call0 hk; clear hk
      refine L_val hF (by kernel_rfl) (by kernel_rfl) (v := .int .i64 (n)) (by kernel_rfl) (by kernel_rfl) ?_
      clear hF; intro a hF
      refine L_call hF (by kernel_rfl) (by kernel_rfl) (by kernel_rfl) (by kernel_rfl) (ref04_Right n W3) ?_
      clear hF; rintro _ W4 a ⟨rfl, hk⟩ hF
      replace hO := hO.call0 hk; clear hk
      refine L_val hF (by kernel_rfl) (by kernel_rfl) (v := .bool true) (x_bool (x := (decide (1 ≤ n ∧ n ≤ 65535)) == (decide (1 ≤ n ∧ n ≤ 65535))) (beq_self_eq_true _) (by kernel_rfl)) (by kernel_rfl) ?_
      clear hF; intro a hF
      refine L_val hF (by kernel_rfl) (by kernel_rfl) (v := .bool true) (by kernel_rfl) (by kernel_rfl) ?_
      clear hF; intro a hF
      refine L_val hF (by kernel_rfl) (by kernel_rfl) (v := .int .i64 (n)) (by kernel_rfl) (by kernel_rfl) ?_
      clear hF; intro a hF
      refine L_call hF (by kernel_rfl) (by kernel_rfl) (by kernel_rfl) (by kernel_rfl) (ports_Proto n W4) ?_
      clear hF; rintro _ W5 a ⟨rfl, hk⟩ hF
      replace hO := hO.call0 hk; clear hk
      refine L_val hF (by kernel_rfl) (by kernel_rfl) (v := .int .i64 (n)) (by kernel_rfl) (by kernel_rfl) ?_
      clear hF; intro a hF
      refine L_call hF (by kernel_rfl) (by kernel_rfl) (by kernel_rfl) (by kernel_rfl) (ref04_Proto n W5) ?_
      clear hF; rintro _ W6 a ⟨rfl, hk⟩ hF
      replace hO := hO.call0 hk; clear hk
      refine L_val hF (by kernel_rfl) (by kernel_rfl) (v := .bool true) (x_bool (x := (decide (n = 6 ∨ n = 17)) == (decide (n = 6 ∨ n = 17))) (beq_self_eq_true _) (by kernel_rfl)) (by kernel_rfl) ?_
      clear hF; intro a hF
      refine L_val hF (by kernel_rfl) (by kernel_rfl) (v := .bool true) (by kernel_rfl) (by kernel_rfl) ?_
      clear hF; intro a hF
      refine L_val hF (by kernel_rfl) (by kernel_rfl) (v := .bool true) (by kernel_rfl) (by kernel_rfl) ?_
      clear hF; intro a hF
      refine L_val hF (by kernel_rfl) (by kernel_rfl) (v := .int .i64 (n)) (by kernel_rfl) (by kernel_rfl) ?_
      clear hF; intro a hF
      refine L_call hF (by kernel_rfl) (by kernel_rfl) (by kernel_rfl) (by kernel_rfl) ((ports_Word n W6).mono fun v W' h => (⟨by rw [h.1, if_pos h6], h.2⟩ : v = .string ⟨#[116, 99, 112]⟩ ∧ Own W6 noX [] W')) ?_
      clear hF; rintro _ W7 a ⟨rfl, hk⟩ hF
      replace hO := hO.call0 hk; clear hk
      refine L_val hF (by kernel_rfl) (by kernel_rfl) (v := .string (⟨#[117, 100, 112]⟩ : ByteArray)) (by kernel_rfl) (by kernel_rfl) ?_
      clear hF; intro a hF
      refine L_val hF (by kernel_rfl) (by kernel_rfl) (v := .bool false) (by kernel_rfl) (by kernel_rfl) ?_
      clear hF; intro a hF
      refine L_val hF (by kernel_rfl) (by kernel_rfl) (v := .bool false) (by kernel_rfl) (by kernel_rfl) ?_
      clear hF; intro a hF
      refine L_val hF (by kernel_rfl) (by kernel_rfl) (v := .bool false) (by kernel_rfl) (by kernel_rfl) ?_
      clear hF; intro a hF
      refine L_off hF (by kernel_rfl) (by kernel_rfl) ?_
      clear hF; intro a hF
      refine L_off hF (by kernel_rfl) (by kernel_rfl) ?_
      clear hF; intro a hF
      refine L_off hF (by kernel_rfl) (by kernel_rfl) ?_
      clear hF; intro a hF
      refine L_val hF (by kernel_rfl) (by kernel_rfl) (v := .bool false) (by kernel_rfl) (by kernel_rfl) ?_
      clear hF; intro a hF
      refine L_val hF (by kernel_rfl) (by kernel_rfl) (v := .bool false) (by kernel_rfl) (by kernel_rfl) ?_
      clear hF; intro a hF
      refine L_off hF (by kernel_rfl) (by kernel_rfl) ?_
      clear hF; intro a hF
      refine L_off hF (by kernel_rfl) (by kernel_rfl) ?_
      clear hF; intro a hF
      refine L_off hF (by kernel_rfl) (by kernel_rfl) ?_
      clear hF; intro a hF
      refine L_off hF (by kernel_rfl) (by kernel_rfl) ?_
      clear hF; intro a hF
      refine L_val hF (by kernel_rfl) (by kernel_rfl) (v := .bool false) (by kernel_rfl) (by kernel_rfl) ?_
      clear hF; intro a hF
      refine L_val hF (by kernel_rfl) (by kernel_rfl) (v := .bool false) (by kernel_rfl) (by kernel_rfl) ?_
      clear hF; intro a hF
      refine L_nil ?_
      refine hK18 _ _ ?_
      refine wp_ret ?_
      -- way 2: n = 6; ¬ s = (⟨#[116, 99, 112]⟩ : ByteArray); ¬ s = (⟨#[117, 100, 112]⟩ : ByteArray); ¬ (s.size : Int) > 100; n = 17
      refine ret1 hF (v := .bool false) rfl (resT (by kernel_rfl)) (by refine ⟨?_, hO.nil⟩; first | rfl | (exfalso; omega)) .ret (.inl rfl)
    ·
      replace hF := hF.know (d := 18) (v' := .bool false) (by kernel_rfl) (congrArg Value.bool (eqF q2))
      refine cond_f hF (by kernel_rfl) (by kernel_rfl) ?_
      refine wp_skip ?_
      refine hK10 _ _ ?_
      refine wp_seq_k fun K19 hK19 => ?_
      refine wp_region_lit ?_
      refine L_val hF (by kernel_rfl) (by kernel_rfl) (v := .string s) (by kernel_rfl) (by kernel_rfl) ?_
      clear hF; intro a hF
      refine L_call hF (by kernel_rfl) (by kernel_rfl) (by kernel_rfl) (by kernel_rfl) (ports_Named2 I ea s W1 (hE.own hO) h16 hw1 hw2) ?_
      clear hF; rintro _ W8 a ⟨rfl, hk⟩ hF
      replace hO := hO.call0 hk; clear hk
      refine L_val hF (by kernel_rfl) (by kernel_rfl) (v := .tuple #[.int .i64 0, errV ea 16]) (by kernel_rfl) (by kernel_rfl) ?_
      clear hF; intro a hF
      refine L_val hF (by kernel_rfl) (by kernel_rfl) (v := .int .i64 0) (by kernel_rfl) (by kernel_rfl) ?_
      clear hF; intro a hF
      refine L_val hF (by kernel_rfl) (by kernel_rfl) (v := errV ea 16) (by kernel_rfl) (by kernel_rfl) ?_
      clear hF; intro a hF
      refine L_val hF (by kernel_rfl) (by kernel_rfl) (v := .int .i64 0) (by kernel_rfl) (by kernel_rfl) ?_
      clear hF; intro a hF
      refine L_val hF (by kernel_rfl) (by kernel_rfl) (v := errV ea 16) (by kernel_rfl) (by kernel_rfl) ?_
      clear hF; intro a hF
      refine L_nil ?_
      refine hK19 _ _ ?_
      refine wp_seq_k fun K20 hK20 => ?_
      refine wp_region_lit ?_
      refine L_val hF (by kernel_rfl) (by kernel_rfl) (v := .int .i64 0) (by kernel_rfl) (by kernel_rfl) ?_
      clear hF; intro a hF
      refine L_val hF (by kernel_rfl) (by kernel_rfl) (v := .int .i64 17) (by kernel_rfl) (by kernel_rfl) ?_
      clear hF; intro a hF
      refine L_nil ?_
      refine hK20 _ _ ?_
      refine wp_seq_k fun K21 hK21 => ?_
      refine wp_seq_k fun K22 hK22 => ?_
      refine wp_region_lit ?_
      refine L_val hF (by kernel_rfl) (by kernel_rfl) (v := .string s) (by kernel_rfl) (by kernel_rfl) ?_
      clear hF; intro a hF
      refine L_val hF (by kernel_rfl) (by kernel_rfl) (v := .bool (strEq s (⟨#[116, 99, 112]⟩ : ByteArray))) (by kernel_rfl) (by kernel_rfl) ?_
      clear hF; intro a hF
      refine L_nil ?_
      refine hK22 _ _ ?_
      replace hF := hF.know (d := 25) (v' := .bool false) (by kernel_rfl) (congrArg Value.bool (strEq_false.2 hw1))
      refine cond_f hF (by kernel_rfl) (by kernel_rfl) ?_
      refine wp_skip ?_
      refine hK21 _ _ ?_
      refine wp_seq_k fun K23 hK23 => ?_
      refine wp_seq_k fun K24 hK24 => ?_
      refine wp_region_lit ?_
      refine L_val hF (by kernel_rfl) (by kernel_rfl) (v := .string s) (by kernel_rfl) (by kernel_rfl) ?_
      clear hF; intro a hF
      refine L_val hF (by kernel_rfl) (by kernel_rfl) (v := .bool (strEq s (⟨#[117, 100, 112]⟩ : ByteArray))) (by kernel_rfl) (by kernel_rfl) ?_
      clear hF; intro a hF
      refine L_nil ?_
      refine hK24 _ _ ?_
      replace hF := hF.know (d := 27) (v' := .bool false) (by kernel_rfl) (congrArg Value.bool (strEq_false.2 hw2))
      refine cond_f hF (by kernel_rfl) (by kernel_rfl) ?_
      refine wp_skip ?_
      refine hK23 _ _ ?_
      refine wp_seq_k fun K25 hK25 => ?_
      refine wp_region_lit ?_
      refine L_val hF (by kernel_rfl) (by kernel_rfl) (v := .int .i64 (n)) (by kernel_rfl) (by kernel_rfl) ?_
      clear hF; intro a hF
      refine L_call hF (by kernel_rfl) (by kernel_rfl) (by kernel_rfl) (by kernel_rfl) (ports_Right n W8) ?_
      clear hF; rintro _ W9 a ⟨rfl, hk⟩ hF
      replace hO := hO.call0 hk; clear hk
      refine L_val hF (by kernel_rfl) (by kernel_rfl) (v := .int .i64 (n)) (by kernel_rfl) (by kernel_rfl) ?_
      clear hF; intro a hF
      refine L_call hF (by kernel_rfl) (by kernel_rfl) (by kernel_rfl) (by kernel_rfl) (ref04_Right n W9) ?_
      clear hF; rintro _ W10 a ⟨rfl, hk⟩ hF
      replace hO := hO.call0 hk; clear hk
      refine L_val hF (by kernel_rfl) (by kernel_rfl) (v := .bool true) (x_bool (x := (decide (1 ≤ n ∧ n ≤ 65535)) == (decide (1 ≤ n ∧ n ≤ 65535))) (beq_self_eq_true _) (by kernel_rfl)) (by kernel_rfl) ?_
      clear hF; intro a hF
      refine L_val hF (by kernel_rfl) (by kernel_rfl) (v := .bool true) (by kernel_rfl) (by kernel_rfl) ?_
      clear hF; intro a hF
      refine L_val hF (by kernel_rfl) (by kernel_rfl) (v := .int .i64 (n)) (by kernel_rfl) (by kernel_rfl) ?_
      clear hF; intro a hF
      refine L_call hF (by kernel_rfl) (by kernel_rfl) (by kernel_rfl) (by kernel_rfl) (ports_Proto n W10) ?_
      clear hF; rintro _ W11 a ⟨rfl, hk⟩ hF
      replace hO := hO.call0 hk; clear hk
      refine L_val hF (by kernel_rfl) (by kernel_rfl) (v := .int .i64 (n)) (by kernel_rfl) (by kernel_rfl) ?_
      clear hF; intro a hF
      refine L_call hF (by kernel_rfl) (by kernel_rfl) (by kernel_rfl) (by kernel_rfl) (ref04_Proto n W11) ?_
      clear hF; rintro _ W12 a ⟨rfl, hk⟩ hF
      replace hO := hO.call0 hk; clear hk
      refine L_val hF (by kernel_rfl) (by kernel_rfl) (v := .bool true) (x_bool (x := (decide (n = 6 ∨ n = 17)) == (decide (n = 6 ∨ n = 17))) (beq_self_eq_true _) (by kernel_rfl)) (by kernel_rfl) ?_
      clear hF; intro a hF
      refine L_val hF (by kernel_rfl) (by kernel_rfl) (v := .bool true) (by kernel_rfl) (by kernel_rfl) ?_
      clear hF; intro a hF
      refine L_val hF (by kernel_rfl) (by kernel_rfl) (v := .bool true) (by kernel_rfl) (by kernel_rfl) ?_
      clear hF; intro a hF
      refine L_val hF (by kernel_rfl) (by kernel_rfl) (v := .int .i64 (n)) (by kernel_rfl) (by kernel_rfl) ?_
      clear hF; intro a hF
      refine L_call hF (by kernel_rfl) (by kernel_rfl) (by kernel_rfl) (by kernel_rfl) ((ports_Word n W12).mono fun v W' h => (⟨by rw [h.1, if_pos h6], h.2⟩ : v = .string ⟨#[116, 99, 112]⟩ ∧ Own W12 noX [] W')) ?_
      clear hF; rintro _ W13 a ⟨rfl, hk⟩ hF
      replace hO := hO.call0 hk; clear hk
      refine L_val hF (by kernel_rfl) (by kernel_rfl) (v := .string (⟨#[116, 99, 112]⟩ : ByteArray)) (by kernel_rfl) (by kernel_rfl) ?_
      clear hF; intro a hF
      refine L_val hF (by kernel_rfl) (by kernel_rfl) (v := .bool true) (x_bool (x := strEq (⟨#[116, 99, 112]⟩ : ByteArray) (⟨#[116, 99, 112]⟩ : ByteArray)) (strEq_refl _) (by kernel_rfl)) (by kernel_rfl) ?_
      clear hF; intro a hF
      refine L_val hF (by kernel_rfl) (by kernel_rfl) (v := .bool true) (by kernel_rfl) (by kernel_rfl) ?_
      clear hF; intro a hF
      refine L_val hF (by kernel_rfl) (by kernel_rfl) (v := .bool true) (by kernel_rfl) (by kernel_rfl) ?_
      clear hF; intro a hF
      refine L_val hF (by kernel_rfl) (by kernel_rfl) (v := .int .i64 0) (by kernel_rfl) (by kernel_rfl) ?_
      clear hF; intro a hF
      refine L_val hF (by kernel_rfl) (by kernel_rfl) (v := .int .i64 0) (by kernel_rfl) (by kernel_rfl) ?_
      clear hF; intro a hF
      refine L_val hF (by kernel_rfl) (by kernel_rfl) (v := .bool true) (by kernel_rfl) (by kernel_rfl) ?_
      clear hF; intro a hF
      refine L_val hF (by kernel_rfl) (by kernel_rfl) (v := .bool true) (by kernel_rfl) (by kernel_rfl) ?_
      clear hF; intro a hF
      refine L_val hF (by kernel_rfl) (by kernel_rfl) (v := .bool true) (by kernel_rfl) (by kernel_rfl) ?_
      clear hF; intro a hF
      refine L_val hF (by kernel_rfl) (by kernel_rfl) (v := errV ea 16) (by kernel_rfl) (by kernel_rfl) ?_
      clear hF; intro a hF
      refine L_call hF (by kernel_rfl) (by kernel_rfl) (by kernel_rfl) (by kernel_rfl) (num_err ea 16 W13 (hI ▸ hE.own hO) (by decide)) ?_
      clear hF; rintro _ W14 a ⟨rfl, hk⟩ hF
      replace hO := hO.call0 hk; clear hk
      refine L_val hF (by kernel_rfl) (by kernel_rfl) (v := .int .i64 17) (by kernel_rfl) (by kernel_rfl) ?_
      clear hF; intro a hF
      refine L_val hF (by kernel_rfl) (by kernel_rfl) (v := .bool true) (by kernel_rfl) (by kernel_rfl) ?_
      clear hF; intro a hF
      refine L_val hF (by kernel_rfl) (by kernel_rfl) (v := .bool true) (by kernel_rfl) (by kernel_rfl) ?_
      clear hF; intro a hF
      refine L_val hF (by kernel_rfl) (by kernel_rfl) (v := .bool true) (by kernel_rfl) (by kernel_rfl) ?_
      clear hF; intro a hF
      refine L_nil ?_
      refine hK25 _ _ ?_
      refine wp_ret ?_
      -- way 3: n = 6; ¬ s = (⟨#[116, 99, 112]⟩ : ByteArray); ¬ s = (⟨#[117, 100, 112]⟩ : ByteArray); ¬ (s.size : Int) > 100; ¬ n = 17
      refine ret1 hF (v := .bool true) rfl (resT (by kernel_rfl)) (by refine ⟨?_, hO.nil⟩; first | rfl | (exfalso; omega)) .ret (.inl rfl)

set_option maxRecDepth 20000 in
theorem law04_PortsWords21 (I : List Nat) (ea : Nat → Addr) (n : Int) (s : ByteArray) (W : World) (hG : LibW W) (hE : Errs I ea W) (h3 : I.contains 3 = true) (h16 : I.contains 16 = true) (hI : I = errIs) (h6 : ¬ n = 6) (h17 : n = 17) (hw1 : ¬ s = ⟨#[116, 99, 112]⟩) (hw2 : ¬ s = ⟨#[117, 100, 112]⟩) : Ret Tryz.prog 3 #[.int .i64 (n), .string s] W fun v W' => v = .bool true ∧ Own W noX [] W' := by
  refine enter Tryz.func3 rfl (n := 57) rfl (by kernel_rfl) (E0 := [(1, .string s), (0, .int .i64 (n))]) (by kernel_rfl) ?_
  intro a hF; have hO := Own.start W noX
  refine wp_seq_k fun K1 hK1 => ?_
  refine wp_region_lit ?_
  refine L_val hF (by kernel_rfl) (by kernel_rfl) (v := .bool false) (by kernel_rfl) (by kernel_rfl) ?_
  clear hF; intro a hF
  refine L_nil ?_
  refine hK1 _ _ ?_
  refine wp_seq_k fun K2 hK2 => ?_
  refine wp_seq_k fun K3 hK3 => ?_
  refine wp_region_lit ?_
  refine L_call hF (by kernel_rfl) (by kernel_rfl) (by kernel_rfl) (by kernel_rfl) (law04_alive I ea W (hG.own hO) (hE.own hO) h3) ?_
  clear hF; rintro _ W1 a ⟨rfl, hk⟩ hF
  replace hO := hO.call0 hk; clear hk
  refine L_val hF (by kernel_rfl) (by kernel_rfl) (v := .bool false) (by kernel_rfl) (by kernel_rfl) ?_
  clear hF; intro a hF
  refine L_nil ?_
  refine hK3 _ _ ?_
  refine cond_f hF (by kernel_rfl) (by kernel_rfl) ?_
  refine wp_skip ?_
  refine hK2 _ _ ?_
  refine wp_seq_k fun K4 hK4 => ?_
  refine wp_seq_k fun K5 hK5 => ?_
  refine wp_region_lit ?_
  refine L_val hF (by kernel_rfl) (by kernel_rfl) (v := .string s) (by kernel_rfl) (by kernel_rfl) ?_
  clear hF; intro a hF
  refine L_val hF (by kernel_rfl) (by kernel_rfl) (v := .int .i64 ((s.size : Int))) (by kernel_rfl) (by kernel_rfl) ?_
  clear hF; intro a hF
  refine L_val hF (by kernel_rfl) (by kernel_rfl) (v := .bool (decide ((s.size : Int) > 100))) (by kernel_rfl) (by kernel_rfl) ?_
  clear hF; intro a hF
  refine L_nil ?_
  refine hK5 _ _ ?_
  by_cases q1 : (s.size : Int) > 100
  ·
    replace hF := hF.know (d := 14) (v' := .bool true) (by kernel_rfl) (congrArg Value.bool (decide_eq_true q1))
    refine cond_t hF (by kernel_rfl) (by kernel_rfl) ?_
    refine wp_seq_k fun K6 hK6 => ?_
    refine wp_region_lit ?_
    refine L_val hF (by kernel_rfl) (by kernel_rfl) (v := .bool true) (by kernel_rfl) (by kernel_rfl) ?_
    clear hF; intro a hF
    refine L_nil ?_
    refine hK6 _ _ ?_
    refine wp_ret ?_
    refine then_ret ?_
    -- way 1: ¬ n = 6; n = 17; ¬ s = (⟨#[116, 99, 112]⟩ : ByteArray); ¬ s = (⟨#[117, 100, 112]⟩ : ByteArray); (s.size : Int) > 100
    refine ret1 hF (v := .bool true) rfl (resT (by kernel_rfl)) (by refine ⟨?_, hO.nil⟩; first | rfl | (exfalso; omega)) .ret (.inl rfl)
  ·
    replace hF := hF.know (d := 14) (v' := .bool false) (by kernel_rfl) (congrArg Value.bool (decide_eq_false q1))
    refine cond_f hF (by kernel_rfl) (by kernel_rfl) ?_
    refine wp_skip ?_
    refine hK4 _ _ ?_
    refine wp_seq_k fun K7 hK7 => ?_
    refine wp_region_lit ?_
    refine L_val hF (by kernel_rfl) (by kernel_rfl) (v := .string (⟨#[]⟩ : ByteArray)) (by kernel_rfl) (by kernel_rfl) ?_
    clear hF; intro a hF
    refine L_nil ?_
    refine hK7 _ _ ?_
    refine wp_seq_k fun K8 hK8 => ?_
    refine wp_seq_k fun K9 hK9 => ?_
    refine wp_region_lit ?_
    refine L_val hF (by kernel_rfl) (by kernel_rfl) (v := .int .i64 (n)) (by kernel_rfl) (by kernel_rfl) ?_
    clear hF; intro a hF
    refine L_val hF (by kernel_rfl) (by kernel_rfl) (v := .bool (n == 6)) (by kernel_rfl) (by kernel_rfl) ?_
    clear hF; intro a hF
    refine L_nil ?_
    refine hK9 _ _ ?_
    replace hF := hF.know (d := 16) (v' := .bool false) (by kernel_rfl) (congrArg Value.bool (eqF h6))
    refine cond_f hF (by kernel_rfl) (by kernel_rfl) ?_
    refine wp_skip ?_
    refine hK8 _ _ ?_
    refine wp_seq_k fun K10 hK10 => ?_
    refine wp_seq_k fun K11 hK11 => ?_
    refine wp_region_lit ?_
    refine L_val hF (by kernel_rfl) (by kernel_rfl) (v := .int .i64 (n)) (by kernel_rfl) (by kernel_rfl) ?_
    clear hF; intro a hF
    refine L_val hF (by kernel_rfl) (by kernel_rfl) (v := .bool (n == 17)) (by kernel_rfl) (by kernel_rfl) ?_
    clear hF; intro a hF
    refine L_nil ?_
    refine hK11 _ _ ?_
    replace hF := hF.know (d := 18) (v' := .bool true) (by kernel_rfl) (congrArg Value.bool (eqT h17))
    refine cond_t hF (by kernel_rfl) (by kernel_rfl) ?_
    refine wp_region_lit ?_
    refine L_val hF (by kernel_rfl) (by kernel_rfl) (v := .string (⟨#[117, 100, 112]⟩ : ByteArray)) (by kernel_rfl) (by kernel_rfl) ?_
    clear hF; intro a hF
    refine L_nil ?_
    refine hK10 _ _ ?_
    refine wp_seq_k fun K12 hK12 => ?_
    refine wp_region_lit ?_
    refine L_val hF (by kernel_rfl) (by kernel_rfl) (v := .string s) (by kernel_rfl) (by kernel_rfl) ?_
    clear hF; intro a hF
    refine L_call hF (by kernel_rfl) (by kernel_rfl) (by kernel_rfl) (by kernel_rfl) (ports_Named2 I ea s W1 (hE.own hO) h16 hw1 hw2) ?_
    clear hF; rintro _ W2 a ⟨rfl, hk⟩ hF
    replace hO := hO.call0 hk; clear hk
    refine L_val hF (by kernel_rfl) (by kernel_rfl) (v := .tuple #[.int .i64 0, errV ea 16]) (by kernel_rfl) (by kernel_rfl) ?_
    clear hF; intro a hF
    refine L_val hF (by kernel_rfl) (by kernel_rfl) (v := .int .i64 0) (by kernel_rfl) (by kernel_rfl) ?_
    clear hF; intro a hF
    refine L_val hF (by kernel_rfl) (by kernel_rfl) (v := errV ea 16) (by kernel_rfl) (by kernel_rfl) ?_
    clear hF; intro a hF
    refine L_val hF (by kernel_rfl) (by kernel_rfl) (v := .int .i64 0) (by kernel_rfl) (by kernel_rfl) ?_
    clear hF; intro a hF
    refine L_val hF (by kernel_rfl) (by kernel_rfl) (v := errV ea 16) (by kernel_rfl) (by kernel_rfl) ?_
    clear hF; intro a hF
    refine L_nil ?_
    refine hK12 _ _ ?_
    refine wp_seq_k fun K13 hK13 => ?_
    refine wp_region_lit ?_
    refine L_val hF (by kernel_rfl) (by kernel_rfl) (v := .int .i64 0) (by kernel_rfl) (by kernel_rfl) ?_
    clear hF; intro a hF
    refine L_val hF (by kernel_rfl) (by kernel_rfl) (v := .int .i64 17) (by kernel_rfl) (by kernel_rfl) ?_
    clear hF; intro a hF
    refine L_nil ?_
    refine hK13 _ _ ?_
    refine wp_seq_k fun K14 hK14 => ?_
    refine wp_seq_k fun K15 hK15 => ?_
    refine wp_region_lit ?_
    refine L_val hF (by kernel_rfl) (by kernel_rfl) (v := .string s) (by kernel_rfl) (by kernel_rfl) ?_
    clear hF; intro a hF
    refine L_val hF (by kernel_rfl) (by kernel_rfl) (v := .bool (strEq s (⟨#[116, 99, 112]⟩ : ByteArray))) (by kernel_rfl) (by kernel_rfl) ?_
    clear hF; intro a hF
    refine L_nil ?_
    refine hK15 _ _ ?_
    replace hF := hF.know (d := 25) (v' := .bool false) (by kernel_rfl) (congrArg Value.bool (strEq_false.2 hw1))
    refine cond_f hF (by kernel_rfl) (by kernel_rfl) ?_
    refine wp_skip ?_
    refine hK14 _ _ ?_
    refine wp_seq_k fun K16 hK16 => ?_
    refine wp_seq_k fun K17 hK17 => ?_
    refine wp_region_lit ?_
    refine L_val hF (by kernel_rfl) (by kernel_rfl) (v := .string s) (by kernel_rfl) (by kernel_rfl) ?_
    clear hF; intro a hF
    refine L_val hF (by kernel_rfl) (by kernel_rfl) (v := .bool (strEq s (⟨#[117, 100, 112]⟩ : ByteArray))) (by kernel_rfl) (by kernel_rfl) ?_
    clear hF; intro a hF
    refine L_nil ?_
    refine hK17 _ _ ?_
    replace hF := hF.know (d := 27) (v' := .bool false) (by kernel_rfl) (congrArg Value.bool (strEq_false.2 hw2))
    refine cond_f hF (by kernel_rfl) (by kernel_rfl) ?_
    refine wp_skip ?_
    refine hK16 _ _ ?_
    refine wp_seq_k fun K18 hK18 => ?_
    refine wp_region_lit ?_
    refine L_val hF (by kernel_rfl) (by kernel_rfl) (v := .int .i64 (n)) (by kernel_rfl) (by kernel_rfl) ?_
    clear hF; intro a hF
    refine L_call hF (by kernel_rfl) (by kernel_rfl) (by kernel_rfl) (by kernel_rfl) (ports_Right n W2) ?_
    clear hF; rintro _ W3 a ⟨rfl, hk⟩ hF
    replace hO := hO.call0 hk; clear hk
    refine L_val hF (by kernel_rfl) (by kernel_rfl) (v := .int .i64 (n)) (by kernel_rfl) (by kernel_rfl) ?_
    clear hF; intro a hF
    refine L_call hF (by kernel_rfl) (by kernel_rfl) (by kernel_rfl) (by kernel_rfl) (ref04_Right n W3) ?_
    clear hF; rintro _ W4 a ⟨rfl, hk⟩ hF
    replace hO := hO.call0 hk; clear hk
    refine L_val hF (by kernel_rfl) (by kernel_rfl) (v := .bool true) (x_bool (x := (decide (1 ≤ n ∧ n ≤ 65535)) == (decide (1 ≤ n ∧ n ≤ 65535))) (beq_self_eq_true _) (by kernel_rfl)) (by kernel_rfl) ?_
    clear hF; intro a hF
    refine L_val hF (by kernel_rfl) (by kernel_rfl) (v := .bool true) (by kernel_rfl) (by kernel_rfl) ?_
    clear hF; intro a hF
    refine L_val hF (by kernel_rfl) (by kernel_rfl) (v := .int .i64 (n)) (by kernel_rfl) (by kernel_rfl) ?_
    clear hF; intro a hF
    refine L_call hF (by kernel_rfl) (by kernel_rfl) (by kernel_rfl) (by kernel_rfl) (ports_Proto n W4) ?_
    clear hF; rintro _ W5 a ⟨rfl, hk⟩ hF
    replace hO := hO.call0 hk; clear hk
    refine L_val hF (by kernel_rfl) (by kernel_rfl) (v := .int .i64 (n)) (by kernel_rfl) (by kernel_rfl) ?_
    clear hF; intro a hF
    refine L_call hF (by kernel_rfl) (by kernel_rfl) (by kernel_rfl) (by kernel_rfl) (ref04_Proto n W5) ?_
    clear hF; rintro _ W6 a ⟨rfl, hk⟩ hF
    replace hO := hO.call0 hk; clear hk
    refine L_val hF (by kernel_rfl) (by kernel_rfl) (v := .bool true) (x_bool (x := (decide (n = 6 ∨ n = 17)) == (decide (n = 6 ∨ n = 17))) (beq_self_eq_true _) (by kernel_rfl)) (by kernel_rfl) ?_
    clear hF; intro a hF
    refine L_val hF (by kernel_rfl) (by kernel_rfl) (v := .bool true) (by kernel_rfl) (by kernel_rfl) ?_
    clear hF; intro a hF
    refine L_val hF (by kernel_rfl) (by kernel_rfl) (v := .bool true) (by kernel_rfl) (by kernel_rfl) ?_
    clear hF; intro a hF
    refine L_val hF (by kernel_rfl) (by kernel_rfl) (v := .int .i64 (n)) (by kernel_rfl) (by kernel_rfl) ?_
    clear hF; intro a hF
    refine L_call hF (by kernel_rfl) (by kernel_rfl) (by kernel_rfl) (by kernel_rfl) ((ports_Word n W6).mono fun v W' h => (⟨by rw [h.1, if_neg h6, if_pos h17], h.2⟩ : v = .string ⟨#[117, 100, 112]⟩ ∧ Own W6 noX [] W')) ?_
    clear hF; rintro _ W7 a ⟨rfl, hk⟩ hF
    replace hO := hO.call0 hk; clear hk
    refine L_val hF (by kernel_rfl) (by kernel_rfl) (v := .string (⟨#[117, 100, 112]⟩ : ByteArray)) (by kernel_rfl) (by kernel_rfl) ?_
    clear hF; intro a hF
    refine L_val hF (by kernel_rfl) (by kernel_rfl) (v := .bool true) (x_bool (x := strEq (⟨#[117, 100, 112]⟩ : ByteArray) (⟨#[117, 100, 112]⟩ : ByteArray)) (strEq_refl _) (by kernel_rfl)) (by kernel_rfl) ?_
    clear hF; intro a hF
    refine L_val hF (by kernel_rfl) (by kernel_rfl) (v := .bool true) (by kernel_rfl) (by kernel_rfl) ?_
    clear hF; intro a hF
    refine L_val hF (by kernel_rfl) (by kernel_rfl) (v := .bool true) (by kernel_rfl) (by kernel_rfl) ?_
    clear hF; intro a hF
    refine L_val hF (by kernel_rfl) (by kernel_rfl) (v := .int .i64 0) (by kernel_rfl) (by kernel_rfl) ?_
    clear hF; intro a hF
    refine L_val hF (by kernel_rfl) (by kernel_rfl) (v := .int .i64 0) (by kernel_rfl) (by kernel_rfl) ?_
    clear hF; intro a hF
    refine L_val hF (by kernel_rfl) (by kernel_rfl) (v := .bool true) (by kernel_rfl) (by kernel_rfl) ?_
    clear hF; intro a hF
    refine L_val hF (by kernel_rfl) (by kernel_rfl) (v := .bool true) (by kernel_rfl) (by kernel_rfl) ?_
    clear hF; intro a hF
    refine L_val hF (by kernel_rfl) (by kernel_rfl) (v := .bool true) (by kernel_rfl) (by kernel_rfl) ?_
    clear hF; intro a hF
    refine L_val hF (by kernel_rfl) (by kernel_rfl) (v := errV ea 16) (by kernel_rfl) (by kernel_rfl) ?_
    clear hF; intro a hF
    refine L_call hF (by kernel_rfl) (by kernel_rfl) (by kernel_rfl) (by kernel_rfl) (num_err ea 16 W7 (hI ▸ hE.own hO) (by decide)) ?_
    clear hF; rintro _ W8 a ⟨rfl, hk⟩ hF
    replace hO := hO.call0 hk; clear hk
    refine L_val hF (by kernel_rfl) (by kernel_rfl) (v := .int .i64 17) (by kernel_rfl) (by kernel_rfl) ?_
    clear hF; intro a hF
    refine L_val hF (by kernel_rfl) (by kernel_rfl) (v := .bool true) (by kernel_rfl) (by kernel_rfl) ?_
    clear hF; intro a hF
    refine L_val hF (by kernel_rfl) (by kernel_rfl) (v := .bool true) (by kernel_rfl) (by kernel_rfl) ?_
    clear hF; intro a hF
    refine L_val hF (by kernel_rfl) (by kernel_rfl) (v := .bool true) (by kernel_rfl) (by kernel_rfl) ?_
    clear hF; intro a hF
    refine L_nil ?_
    refine hK18 _ _ ?_
    refine wp_ret ?_
    -- way 2: ¬ n = 6; n = 17; ¬ s = (⟨#[116, 99, 112]⟩ : ByteArray); ¬ s = (⟨#[117, 100, 112]⟩ : ByteArray); ¬ (s.size : Int) > 100
    refine ret1 hF (v := .bool true) rfl (resT (by kernel_rfl)) (by refine ⟨?_, hO.nil⟩; first | rfl | (exfalso; omega)) .ret (.inl rfl)

set_option maxRecDepth 20000 in
theorem law04_PortsWords22 (I : List Nat) (ea : Nat → Addr) (n : Int) (s : ByteArray) (W : World) (hG : LibW W) (hE : Errs I ea W) (h3 : I.contains 3 = true) (h16 : I.contains 16 = true) (hI : I = errIs) (h6 : ¬ n = 6) (h17 : ¬ n = 17) (hw1 : ¬ s = ⟨#[116, 99, 112]⟩) (hw2 : ¬ s = ⟨#[117, 100, 112]⟩) : Ret Tryz.prog 3 #[.int .i64 (n), .string s] W fun v W' => v = .bool true ∧ Own W noX [] W' := by
  refine enter Tryz.func3 rfl (n := 57) rfl (by kernel_rfl) (E0 := [(1, .string s), (0, .int .i64 (n))]) (by kernel_rfl) ?_
  intro a hF; have hO := Own.start W noX
  refine wp_seq_k fun K1 hK1 => ?_
  refine wp_region_lit ?_
  refine L_val hF (by kernel_rfl) (by kernel_rfl) (v := .bool false) (by kernel_rfl) (by kernel_rfl) ?_
  clear hF; intro a hF
  refine L_nil ?_
  refine hK1 _ _ ?_
  refine wp_seq_k fun K2 hK2 => ?_
  refine wp_seq_k fun K3 hK3 => ?_
  refine wp_region_lit ?_
  refine L_call hF (by kernel_rfl) (by kernel_rfl) (by kernel_rfl) (by kernel_rfl) (law04_alive I ea W (hG.own hO) (hE.own hO) h3) ?_
  clear hF; rintro _ W1 a ⟨rfl, hk⟩ hF
  replace hO := hO.call0 hk; clear hk
  refine L_val hF (by kernel_rfl) (by kernel_rfl) (v := .bool false) (by kernel_rfl) (by kernel_rfl) ?_
  clear hF; intro a hF
  refine L_nil ?_
  refine hK3 _ _ ?_
  refine cond_f hF (by kernel_rfl) (by kernel_rfl) ?_
  refine wp_skip ?_
  refine hK2 _ _ ?_
  refine wp_seq_k fun K4 hK4 => ?_
  refine wp_seq_k fun K5 hK5 => ?_
  refine wp_region_lit ?_
  refine L_val hF (by kernel_rfl) (by kernel_rfl) (v := .string s) (by kernel_rfl) (by kernel_rfl) ?_
  clear hF; intro a hF
  refine L_val hF (by kernel_rfl) (by kernel_rfl) (v := .int .i64 ((s.size : Int))) (by kernel_rfl) (by kernel_rfl) ?_
  clear hF; intro a hF
  refine L_val hF (by kernel_rfl) (by kernel_rfl) (v := .bool (decide ((s.size : Int) > 100))) (by kernel_rfl) (by kernel_rfl) ?_
  clear hF; intro a hF
  refine L_nil ?_
  refine hK5 _ _ ?_
  by_cases q1 : (s.size : Int) > 100
  ·
    replace hF := hF.know (d := 14) (v' := .bool true) (by kernel_rfl) (congrArg Value.bool (decide_eq_true q1))
    refine cond_t hF (by kernel_rfl) (by kernel_rfl) ?_
    refine wp_seq_k fun K6 hK6 => ?_
    refine wp_region_lit ?_
    refine L_val hF (by kernel_rfl) (by kernel_rfl) (v := .bool true) (by kernel_rfl) (by kernel_rfl) ?_
    clear hF; intro a hF
    refine L_nil ?_
    refine hK6 _ _ ?_
    refine wp_ret ?_
    refine then_ret ?_
    -- way 1: ¬ n = 6; ¬ n = 17; ¬ s = (⟨#[116, 99, 112]⟩ : ByteArray); ¬ s = (⟨#[117, 100, 112]⟩ : ByteArray); (s.size : Int) > 100
    refine ret1 hF (v := .bool true) rfl (resT (by kernel_rfl)) (by refine ⟨?_, hO.nil⟩; first | rfl | (exfalso; omega)) .ret (.inl rfl)
  ·
    replace hF := hF.know (d := 14) (v' := .bool false) (by kernel_rfl) (congrArg Value.bool (decide_eq_false q1))
    refine cond_f hF (by kernel_rfl) (by kernel_rfl) ?_
    refine wp_skip ?_
    refine hK4 _ _ ?_
    refine wp_seq_k fun K7 hK7 => ?_
    refine wp_region_lit ?_
    refine L_val hF (by kernel_rfl) (by kernel_rfl) (v := .string (⟨#[]⟩ : ByteArray)) (by kernel_rfl) (by kernel_rfl) ?_
    clear hF; intro a hF
    refine L_nil ?_
    refine hK7 _ _ ?_
    refine wp_seq_k fun K8 hK8 => ?_
    refine wp_seq_k fun K9 hK9 => ?_
    refine wp_region_lit ?_
    refine L_val hF (by kernel_rfl) (by kernel_rfl) (v := .int .i64 (n)) (by kernel_rfl) (by kernel_rfl) ?_
    clear hF; intro a hF
    refine L_val hF (by kernel_rfl) (by kernel_rfl) (v := .bool (n == 6)) (by kernel_rfl) (by kernel_rfl) ?_
    clear hF; intro a hF
    refine L_nil ?_
    refine hK9 _ _ ?_
    replace hF := hF.know (d := 16) (v' := .bool false) (by kernel_rfl) (congrArg Value.bool (eqF h6))
    refine cond_f hF (by kernel_rfl) (by kernel_rfl) ?_
    refine wp_skip ?_
    refine hK8 _ _ ?_
    refine wp_seq_k fun K10 hK10 => ?_
    refine wp_seq_k fun K11 hK11 => ?_
    refine wp_region_lit ?_
    refine L_val hF (by kernel_rfl) (by kernel_rfl) (v := .int .i64 (n)) (by kernel_rfl) (by kernel_rfl) ?_
    clear hF; intro a hF
    refine L_val hF (by kernel_rfl) (by kernel_rfl) (v := .bool (n == 17)) (by kernel_rfl) (by kernel_rfl) ?_
    clear hF; intro a hF
    refine L_nil ?_
    refine hK11 _ _ ?_
    replace hF := hF.know (d := 18) (v' := .bool false) (by kernel_rfl) (congrArg Value.bool (eqF h17))
    refine cond_f hF (by kernel_rfl) (by kernel_rfl) ?_
    refine wp_skip ?_
    refine hK10 _ _ ?_
    refine wp_seq_k fun K12 hK12 => ?_
    refine wp_region_lit ?_
    refine L_val hF (by kernel_rfl) (by kernel_rfl) (v := .string s) (by kernel_rfl) (by kernel_rfl) ?_
    clear hF; intro a hF
    refine L_call hF (by kernel_rfl) (by kernel_rfl) (by kernel_rfl) (by kernel_rfl) (ports_Named2 I ea s W1 (hE.own hO) h16 hw1 hw2) ?_
    clear hF; rintro _ W2 a ⟨rfl, hk⟩ hF
    replace hO := hO.call0 hk; clear hk
    refine L_val hF (by kernel_rfl) (by kernel_rfl) (v := .tuple #[.int .i64 0, errV ea 16]) (by kernel_rfl) (by kernel_rfl) ?_
    clear hF; intro a hF
    refine L_val hF (by kernel_rfl) (by kernel_rfl) (v := .int .i64 0) (by kernel_rfl) (by kernel_rfl) ?_
    clear hF; intro a hF
    refine L_val hF (by kernel_rfl) (by kernel_rfl) (v := errV ea 16) (by kernel_rfl) (by kernel_rfl) ?_
    clear hF; intro a hF
    refine L_val hF (by kernel_rfl) (by kernel_rfl) (v := .int .i64 0) (by kernel_rfl) (by kernel_rfl) ?_
    clear hF; intro a hF
    refine L_val hF (by kernel_rfl) (by kernel_rfl) (v := errV ea 16) (by kernel_rfl) (by kernel_rfl) ?_
    clear hF; intro a hF
    refine L_nil ?_
    refine hK12 _ _ ?_
    refine wp_seq_k fun K13 hK13 => ?_
    refine wp_region_lit ?_
    refine L_val hF (by kernel_rfl) (by kernel_rfl) (v := .int .i64 0) (by kernel_rfl) (by kernel_rfl) ?_
    clear hF; intro a hF
    refine L_val hF (by kernel_rfl) (by kernel_rfl) (v := .int .i64 17) (by kernel_rfl) (by kernel_rfl) ?_
    clear hF; intro a hF
    refine L_nil ?_
    refine hK13 _ _ ?_
    refine wp_seq_k fun K14 hK14 => ?_
    refine wp_seq_k fun K15 hK15 => ?_
    refine wp_region_lit ?_
    refine L_val hF (by kernel_rfl) (by kernel_rfl) (v := .string s) (by kernel_rfl) (by kernel_rfl) ?_
    clear hF; intro a hF
    refine L_val hF (by kernel_rfl) (by kernel_rfl) (v := .bool (strEq s (⟨#[116, 99, 112]⟩ : ByteArray))) (by kernel_rfl) (by kernel_rfl) ?_
    clear hF; intro a hF
    refine L_nil ?_
    refine hK15 _ _ ?_
    replace hF := hF.know (d := 25) (v' := .bool false) (by kernel_rfl) (congrArg Value.bool (strEq_false.2 hw1))
    refine cond_f hF (by kernel_rfl) (by kernel_rfl) ?_
    refine wp_skip ?_
    refine hK14 _ _ ?_
    refine wp_seq_k fun K16 hK16 => ?_
    refine wp_seq_k fun K17 hK17 => ?_
    refine wp_region_lit ?_
    refine L_val hF (by kernel_rfl) (by kernel_rfl) (v := .string s) (by kernel_rfl) (by kernel_rfl) ?_
    clear hF; intro a hF
    refine L_val hF (by kernel_rfl) (by kernel_rfl) (v := .bool (strEq s (⟨#[117, 100, 112]⟩ : ByteArray))) (by kernel_rfl) (by kernel_rfl) ?_
    clear hF; intro a hF
    refine L_nil ?_
    refine hK17 _ _ ?_
    replace hF := hF.know (d := 27) (v' := .bool false) (by kernel_rfl) (congrArg Value.bool (strEq_false.2 hw2))
    refine cond_f hF (by kernel_rfl) (by kernel_rfl) ?_
    refine wp_skip ?_
    refine hK16 _ _ ?_
    refine wp_seq_k fun K18 hK18 => ?_
    refine wp_region_lit ?_
    refine L_val hF (by kernel_rfl) (by kernel_rfl) (v := .int .i64 (n)) (by kernel_rfl) (by kernel_rfl) ?_
    clear hF; intro a hF
    refine L_call hF (by kernel_rfl) (by kernel_rfl) (by kernel_rfl) (by kernel_rfl) (ports_Right n W2) ?_
    clear hF; rintro _ W3 a ⟨rfl, hk⟩ hF
    replace hO := hO.call0 hk; clear hk
    refine L_val hF (by kernel_rfl) (by kernel_rfl) (v := .int .i64 (n)) (by kernel_rfl) (by kernel_rfl) ?_
    clear hF; intro a hF
    refine L_call hF (by kernel_rfl) (by kernel_rfl) (by kernel_rfl) (by kernel_rfl) (ref04_Right n W3) ?_
    clear hF; rintro _ W4 a ⟨rfl, hk⟩ hF
    replace hO := hO.call0 hk; clear hk
    refine L_val hF (by kernel_rfl) (by kernel_rfl) (v := .bool true) (x_bool (x := (decide (1 ≤ n ∧ n ≤ 65535)) == (decide (1 ≤ n ∧ n ≤ 65535))) (beq_self_eq_true _) (by kernel_rfl)) (by kernel_rfl) ?_
    clear hF; intro a hF
    refine L_val hF (by kernel_rfl) (by kernel_rfl) (v := .bool true) (by kernel_rfl) (by kernel_rfl) ?_
    clear hF; intro a hF
    refine L_val hF (by kernel_rfl) (by kernel_rfl) (v := .int .i64 (n)) (by kernel_rfl) (by kernel_rfl) ?_
    clear hF; intro a hF
    refine L_call hF (by kernel_rfl) (by kernel_rfl) (by kernel_rfl) (by kernel_rfl) (ports_Proto n W4) ?_
    clear hF; rintro _ W5 a ⟨rfl, hk⟩ hF
    replace hO := hO.call0 hk; clear hk
    refine L_val hF (by kernel_rfl) (by kernel_rfl) (v := .int .i64 (n)) (by kernel_rfl) (by kernel_rfl) ?_
    clear hF; intro a hF
    refine L_call hF (by kernel_rfl) (by kernel_rfl) (by kernel_rfl) (by kernel_rfl) (ref04_Proto n W5) ?_
    clear hF; rintro _ W6 a ⟨rfl, hk⟩ hF
    replace hO := hO.call0 hk; clear hk
    refine L_val hF (by kernel_rfl) (by kernel_rfl) (v := .bool true) (x_bool (x := (decide (n = 6 ∨ n = 17)) == (decide (n = 6 ∨ n = 17))) (beq_self_eq_true _) (by kernel_rfl)) (by kernel_rfl) ?_
    clear hF; intro a hF
    refine L_val hF (by kernel_rfl) (by kernel_rfl) (v := .bool true) (by kernel_rfl) (by kernel_rfl) ?_
    clear hF; intro a hF
    refine L_val hF (by kernel_rfl) (by kernel_rfl) (v := .bool true) (by kernel_rfl) (by kernel_rfl) ?_
    clear hF; intro a hF
    refine L_val hF (by kernel_rfl) (by kernel_rfl) (v := .int .i64 (n)) (by kernel_rfl) (by kernel_rfl) ?_
    clear hF; intro a hF
    refine L_call hF (by kernel_rfl) (by kernel_rfl) (by kernel_rfl) (by kernel_rfl) ((ports_Word n W6).mono fun v W' h => (⟨by rw [h.1, if_neg h6, if_neg h17], h.2⟩ : v = .string ⟨#[]⟩ ∧ Own W6 noX [] W')) ?_
    clear hF; rintro _ W7 a ⟨rfl, hk⟩ hF
    replace hO := hO.call0 hk; clear hk
    refine L_val hF (by kernel_rfl) (by kernel_rfl) (v := .string (⟨#[]⟩ : ByteArray)) (by kernel_rfl) (by kernel_rfl) ?_
    clear hF; intro a hF
    refine L_val hF (by kernel_rfl) (by kernel_rfl) (v := .bool true) (x_bool (x := strEq (⟨#[]⟩ : ByteArray) (⟨#[]⟩ : ByteArray)) (strEq_refl _) (by kernel_rfl)) (by kernel_rfl) ?_
    clear hF; intro a hF
    refine L_val hF (by kernel_rfl) (by kernel_rfl) (v := .bool true) (by kernel_rfl) (by kernel_rfl) ?_
    clear hF; intro a hF
    refine L_val hF (by kernel_rfl) (by kernel_rfl) (v := .bool true) (by kernel_rfl) (by kernel_rfl) ?_
    clear hF; intro a hF
    refine L_val hF (by kernel_rfl) (by kernel_rfl) (v := .int .i64 0) (by kernel_rfl) (by kernel_rfl) ?_
    clear hF; intro a hF
    refine L_val hF (by kernel_rfl) (by kernel_rfl) (v := .int .i64 0) (by kernel_rfl) (by kernel_rfl) ?_
    clear hF; intro a hF
    refine L_val hF (by kernel_rfl) (by kernel_rfl) (v := .bool true) (by kernel_rfl) (by kernel_rfl) ?_
    clear hF; intro a hF
    refine L_val hF (by kernel_rfl) (by kernel_rfl) (v := .bool true) (by kernel_rfl) (by kernel_rfl) ?_
    clear hF; intro a hF
    refine L_val hF (by kernel_rfl) (by kernel_rfl) (v := .bool true) (by kernel_rfl) (by kernel_rfl) ?_
    clear hF; intro a hF
    refine L_val hF (by kernel_rfl) (by kernel_rfl) (v := errV ea 16) (by kernel_rfl) (by kernel_rfl) ?_
    clear hF; intro a hF
    refine L_call hF (by kernel_rfl) (by kernel_rfl) (by kernel_rfl) (by kernel_rfl) (num_err ea 16 W7 (hI ▸ hE.own hO) (by decide)) ?_
    clear hF; rintro _ W8 a ⟨rfl, hk⟩ hF
    replace hO := hO.call0 hk; clear hk
    refine L_val hF (by kernel_rfl) (by kernel_rfl) (v := .int .i64 17) (by kernel_rfl) (by kernel_rfl) ?_
    clear hF; intro a hF
    refine L_val hF (by kernel_rfl) (by kernel_rfl) (v := .bool true) (by kernel_rfl) (by kernel_rfl) ?_
    clear hF; intro a hF
    refine L_val hF (by kernel_rfl) (by kernel_rfl) (v := .bool true) (by kernel_rfl) (by kernel_rfl) ?_
    clear hF; intro a hF
    refine L_val hF (by kernel_rfl) (by kernel_rfl) (v := .bool true) (by kernel_rfl) (by kernel_rfl) ?_
    clear hF; intro a hF
    refine L_nil ?_
    refine hK18 _ _ ?_
    refine wp_ret ?_
    -- way 2: ¬ n = 6; ¬ n = 17; ¬ s = (⟨#[116, 99, 112]⟩ : ByteArray); ¬ s = (⟨#[117, 100, 112]⟩ : ByteArray); ¬ (s.size : Int) > 100
    refine ret1 hF (v := .bool true) rfl (resT (by kernel_rfl)) (by refine ⟨?_, hO.nil⟩; first | rfl | (exfalso; omega)) .ret (.inl rfl)

end Go.Proofs.YthellfigmpjhlaaGreatDoor
