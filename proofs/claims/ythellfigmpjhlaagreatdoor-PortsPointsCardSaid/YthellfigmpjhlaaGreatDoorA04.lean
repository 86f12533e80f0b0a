import Derived.Test.YthellfigmpjhlaaGreatDoorPortsW
namespace Go.Proofs.YthellfigmpjhlaaGreatDoor
open Go Go.RowKit
set_option linter.unusedVariables false
set_option linter.unusedSimpArgs false
def aliveS : ByteArray := ⟨#[91, 58, 58, 49, 93, 58, 56, 48]⟩
def alivePt : Pt := ⟨⟨true, 0, 0, 0, 0, 0, 0, 0, 0, 0, 0, 0, 0, 0, 0, 0, 1⟩, 80⟩
theorem itoa80 : Lib.itoa 80 = [56, 48] := by simp [Lib.itoa, Lib.decDigits]
theorem alive_num : numP ⟨#[56, 48]⟩ = 80 := by
  have h : atoiN ⟨#[56, 48]⟩ = 80 := by decide
  unfold numP
  rw [h, itoa80, if_pos]
  decide
theorem alive_parse : parsePt aliveS = some alivePt := by
  have h1 : lastC aliveS = 5 := by decide
  have h2 : ptNum aliveS = ⟨#[56, 48]⟩ := by decide
  have h3 : bareS (ptHead aliveS) = ⟨#[58, 58, 49]⟩ := by decide
  have h4 : bareOk (ptHead aliveS) = true := by decide
  have h5 : parseIp ⟨#[58, 58, 49]⟩ = some ⟨true, 0, 0, 0, 0, 0, 0, 0, 0, 0, 0, 0, 0, 0, 0, 0, 1⟩ := by decide
  have h6 := parsePt_good (s := aliveS) (x0 := ⟨true, 0, 0, 0, 0, 0, 0, 0, 0, 0, 0, 0, 0, 0, 0, 0, 1⟩) (by rw [h1]; decide) (by rw [h3, h5]) (by rw [h2, alive_num]; decide) h4
  rw [h6, h2, alive_num]
  rfl
theorem alive_asc : asc aliveS := by unfold asc aliveS; decide
set_option maxRecDepth 20000 in
theorem law04_alive (I : List Nat) (ea : Nat → Addr) (W : World) (hG : LibW W) (hE : Errs I ea W) (h3 : I.contains 3 = true) : Ret Tryz.prog 14 #[] W fun v W' => v = .bool true ∧ Own W noX [] W' := by
 refine enter Tryz.func14 rfl (n := 16) rfl (by kernel_rfl) (E0 := []) (by kernel_rfl) ?_
 intro a hF; have hO := Own.start W noX
 refine wp_seq_k fun K1 hK1 => ?_
 refine wp_region_lit ?_
 refine Vp hF (.bool false) ?_; clear hF; intro a hF
 refine L_nil ?_
 refine hK1 _ _ ?_
 refine wp_seq_k fun K2 hK2 => ?_
 refine wp_region_lit ?_
 refine Lc hF ((ports_Parse I ea aliveS W (hG.own hO) (hE.own hO) h3 (by decide)).mono fun v W' h => (⟨by rw [h.1, alive_parse]; rfl, h.2⟩ : v = .tuple #[ptV alivePt, .nilIface] ∧ Own W noX [] W')) ?_
 clear hF; rintro _ W1 a ⟨rfl, hk⟩ hF
 replace hO := hO.call0 hk; clear hk
 refine Vp hF (.tuple #[ptV alivePt, .nilIface]) ?_; clear hF; intro a hF
 refine Vp hF (ptV alivePt) ?_; clear hF; intro a hF
 refine Vp hF (.nilIface) ?_; clear hF; intro a hF
 refine L_new hF hO (by kernel_rfl) (by kernel_rfl) (vf := fun b => .pointer (some ⟨b, 0, none⟩)) (ob := .cells #[.bool false, .int .u8 0, .int .u8 0, .int .u8 0, .int .u8 0, .int .u8 0, .int .u8 0, .int .u8 0, .int .u8 0, .int .u8 0, .int .u8 0, .int .u8 0, .int .u8 0, .int .u8 0, .int .u8 0, .int .u8 0, .int .u8 0, .int .i64 0] 45) (by kernel_rfl) (by kernel_rfl) ?_
 clear hF hO; intro b1 W2 a hO hF
 obtain ⟨W3, hst, hO1⟩ := run_storeAt (P := Tryz.prog) (k := 18) (T := 45) (off := 0) (v := ptV alivePt) (cs := #[.bool false, .int .u8 0, .int .u8 0, .int .u8 0, .int .u8 0, .int .u8 0, .int .u8 0, .int .u8 0, .int .u8 0, .int .u8 0, .int .u8 0, .int .u8 0, .int .u8 0, .int .u8 0, .int .u8 0, .int .u8 0, .int .u8 0, .int .i64 0]) (cs' := #[.bool alivePt.ip.six, .int .u8 ((alivePt.ip.b0.toNat : Int)), .int .u8 ((alivePt.ip.b1.toNat : Int)), .int .u8 ((alivePt.ip.b2.toNat : Int)), .int .u8 ((alivePt.ip.b3.toNat : Int)), .int .u8 ((alivePt.ip.b4.toNat : Int)), .int .u8 ((alivePt.ip.b5.toNat : Int)), .int .u8 ((alivePt.ip.b6.toNat : Int)), .int .u8 ((alivePt.ip.b7.toNat : Int)), .int .u8 ((alivePt.ip.b8.toNat : Int)), .int .u8 ((alivePt.ip.b9.toNat : Int)), .int .u8 ((alivePt.ip.b10.toNat : Int)), .int .u8 ((alivePt.ip.b11.toNat : Int)), .int .u8 ((alivePt.ip.b12.toNat : Int)), .int .u8 ((alivePt.ip.b13.toNat : Int)), .int .u8 ((alivePt.ip.b14.toNat : Int)), .int .u8 ((alivePt.ip.b15.toNat : Int)), .int .i64 (alivePt.port)]) hO (by kernel_rfl) (by kernel_rfl) (by kernel_rfl) (Nat.le_of_ble_eq_true (by kernel_rfl)) (by kernel_rfl) (.head _)
 refine L_skip hF (by kernel_rfl) (by kernel_rfl) (x_store (p := .pointer (some ⟨b1, 0, none⟩)) (v := ptV alivePt) rfl (by kernel_rfl) (by kernel_rfl) hst) (by kernel_rfl) ?_
 clear hst hF; intro a hF; replace hO := hO1; clear hO1
 refine Vp hF (.nilIface) ?_; clear hF; intro a hF
 refine L_nil ?_
 refine hK2 _ _ ?_
 refine wp_seq_k fun K3 hK3 => ?_
 refine wp_region_lit ?_
 refine Vp hF (.nilIface) ?_; clear hF; intro a hF
 refine Vp hF (.bool true) ?_; clear hF; intro a hF
 refine Vp hF (.bool true) ?_; clear hF; intro a hF
 refine Vr hF (.agg #[.bool alivePt.ip.six, .int .u8 ((alivePt.ip.b0.toNat : Int)), .int .u8 ((alivePt.ip.b1.toNat : Int)), .int .u8 ((alivePt.ip.b2.toNat : Int)), .int .u8 ((alivePt.ip.b3.toNat : Int)), .int .u8 ((alivePt.ip.b4.toNat : Int)), .int .u8 ((alivePt.ip.b5.toNat : Int)), .int .u8 ((alivePt.ip.b6.toNat : Int)), .int .u8 ((alivePt.ip.b7.toNat : Int)), .int .u8 ((alivePt.ip.b8.toNat : Int)), .int .u8 ((alivePt.ip.b9.toNat : Int)), .int .u8 ((alivePt.ip.b10.toNat : Int)), .int .u8 ((alivePt.ip.b11.toNat : Int)), .int .u8 ((alivePt.ip.b12.toNat : Int)), .int .u8 ((alivePt.ip.b13.toNat : Int)), .int .u8 ((alivePt.ip.b14.toNat : Int)), .int .u8 ((alivePt.ip.b15.toNat : Int)), .int .i64 (alivePt.port)]) (x_load (p := .pointer (some ⟨b1, 0, none⟩)) rfl (by kernel_rfl) (run_loadA (k := 18) (by kernel_rfl) (by kernel_rfl) (hO.blk List.mem_cons_self) (by kernel_rfl) (by kernel_rfl))) ?_; clear hF; intro a hF
 refine Vp hF (.agg #[.int .u8 0, .int .u8 0, .int .u8 0, .int .u8 0, .int .u8 0, .int .u8 0, .int .u8 0, .int .u8 0, .int .u8 0, .int .u8 0, .int .u8 0, .int .u8 0, .int .u8 0, .int .u8 0, .int .u8 0, .int .u8 1]) ?_; clear hF; intro a hF
 refine Vp hF (.agg #[.bool true, .int .u8 0, .int .u8 0, .int .u8 0, .int .u8 0, .int .u8 0, .int .u8 0, .int .u8 0, .int .u8 0, .int .u8 0, .int .u8 0, .int .u8 0, .int .u8 0, .int .u8 0, .int .u8 0, .int .u8 0, .int .u8 1]) ?_; clear hF; intro a hF
 refine Vp hF (.agg #[.bool true, .int .u8 0, .int .u8 0, .int .u8 0, .int .u8 0, .int .u8 0, .int .u8 0, .int .u8 0, .int .u8 0, .int .u8 0, .int .u8 0, .int .u8 0, .int .u8 0, .int .u8 0, .int .u8 0, .int .u8 0, .int .u8 1, .int .i64 80]) ?_; clear hF; intro a hF
 refine Vr hF (.bool true) (x_bool (x := decide (alivePt = alivePt)) (decide_eq_true rfl) (x_eqPt (a := alivePt) (b := alivePt) rfl (by kernel_rfl) (by kernel_rfl))) ?_; clear hF; intro a hF
 refine Vp hF (.bool true) ?_; clear hF; intro a hF
 refine Vp hF (.bool true) ?_; clear hF; intro a hF
 refine L_nil ?_
 refine hK3 _ _ ?_
 refine wp_ret ?_
 refine ret1 hF (v := .bool true) rfl (resT (by kernel_rfl)) (by refine ⟨?_, hO.nil⟩; first | rfl | (simp [*]; done)) .ret (.inl rfl)

end Go.Proofs.YthellfigmpjhlaaGreatDoor
