import Derived.Test.YthellfigmpjhlaaGreatDoorA02
import Derived.Test.YthellfigmpjhlaaGreatDoorCidr
import Derived.Test.YthellfigmpjhlaaGreatDoorPortsA
namespace Go.Proofs.YthellfigmpjhlaaGreatDoor
open Go Go.RowKit
set_option linter.unusedVariables false
set_option linter.unusedSimpArgs false
abbrev zFCidrW : Array Value := #[.bool false, .int .u8 0, .int .u8 0, .int .u8 0, .int .u8 0, .int .u8 0, .int .u8 0, .int .u8 0, .int .u8 0, .int .u8 0, .int .u8 0, .int .u8 0, .int .u8 0, .int .u8 0, .int .u8 0, .int .u8 0, .int .u8 0]
theorem slash_ret (s : ByteArray) (W : World) (hG : LibW W) (hs : s.size ≤ 1000000) : Ret Tryz.prog 102 #[.string s, .string ⟨#[47]⟩] W fun v W' => v = .tuple #[.string (slH s), .string (slT s), .bool (slY s)] ∧ Own W noX [] W' := by
  obtain ⟨m, hm⟩ := hG.max
  exact Ret.of (Any.strings_Cut Tryz.lays145 s ⟨#[47]⟩ m W (by omega) hm) fun _ _ ⟨he, k, hw⟩ => ⟨_, he, rfl, by rw [hw]; exact own_drewN W _ k⟩

theorem addr_Bits (x : Ip) (W : World) : Ret Tryz.prog 28 #[ipV x] W fun v W' => v = .int .i64 (widthIp x) ∧ Own W noX [] W' := by
  unfold widthIp
  cases h : x.six
  · exact addr_Bits4 x W h
  · exact addr_Bits6 x W h
set_option maxRecDepth 20000 in
theorem ref03_Width (x : Ip) (W : World) : Ret Tryz.prog 64 #[ipV x] W fun v W' => v = .int .i64 (widthIp x) ∧ Own W noX [] W' := by
 refine enter Tryz.func64 rfl (n := 5) rfl (by kernel_rfl) (E0 := [(0, ipV x)]) (by kernel_rfl) ?_
 intro a hF; have hO := Own.start W noX
 refine wp_seq_k fun K1 hK1 => ?_
 refine wp_region_lit ?_
 refine L_new hF hO (by kernel_rfl) (by kernel_rfl) (vf := fun b => .pointer (some ⟨b, 0, none⟩)) (ob := .cells #[.bool x.six, .int .u8 ((x.b0.toNat : Int)), .int .u8 ((x.b1.toNat : Int)), .int .u8 ((x.b2.toNat : Int)), .int .u8 ((x.b3.toNat : Int)), .int .u8 ((x.b4.toNat : Int)), .int .u8 ((x.b5.toNat : Int)), .int .u8 ((x.b6.toNat : Int)), .int .u8 ((x.b7.toNat : Int)), .int .u8 ((x.b8.toNat : Int)), .int .u8 ((x.b9.toNat : Int)), .int .u8 ((x.b10.toNat : Int)), .int .u8 ((x.b11.toNat : Int)), .int .u8 ((x.b12.toNat : Int)), .int .u8 ((x.b13.toNat : Int)), .int .u8 ((x.b14.toNat : Int)), .int .u8 ((x.b15.toNat : Int))] 33) (by kernel_rfl) (by kernel_rfl) ?_
 clear hF hO; intro b1 W1 a hO hF
 replace hO := hO.reblk (cs := #[.bool x.six, .int .u8 ((x.b0.toNat : Int)), .int .u8 ((x.b1.toNat : Int)), .int .u8 ((x.b2.toNat : Int)), .int .u8 ((x.b3.toNat : Int)), .int .u8 ((x.b4.toNat : Int)), .int .u8 ((x.b5.toNat : Int)), .int .u8 ((x.b6.toNat : Int)), .int .u8 ((x.b7.toNat : Int)), .int .u8 ((x.b8.toNat : Int)), .int .u8 ((x.b9.toNat : Int)), .int .u8 ((x.b10.toNat : Int)), .int .u8 ((x.b11.toNat : Int)), .int .u8 ((x.b12.toNat : Int)), .int .u8 ((x.b13.toNat : Int)), .int .u8 ((x.b14.toNat : Int)), .int .u8 ((x.b15.toNat : Int))]) (cs' := (ipL x).toArray) (by kernel_rfl) (.head _)
 refine Vp hF (.int .i64 0) ?_; clear hF; intro a hF
 refine L_nil ?_
 refine hK1 _ _ ?_
 refine wp_seq_k fun K2 hK2 => ?_
 refine wp_seq_k fun K3 hK3 => ?_
 refine wp_region_lit ?_
 refine Vp hF (.pointer (some ⟨b1, 0, none⟩)) ?_; clear hF; intro a hF
 refine Vr hF (.bool x.six) (x_load (p := .pointer (some ⟨b1, 0, none⟩)) rfl (by kernel_rfl) (run_load1 (by kernel_rfl) ((hO.cell List.mem_cons_self).trans (by kernel_rfl)))) ?_; clear hF; intro a hF
 refine L_nil ?_
 refine hK3 _ _ ?_
 cases q1 : (x.six : Bool)
 ·
  replace hF := hF.know (d := 4) (v' := .bool false) (by kernel_rfl) (congrArg Value.bool q1)
  refine cond_f hF (by kernel_rfl) (by kernel_rfl) ?_
  refine wp_skip ?_
  refine hK2 _ _ ?_
  refine wp_seq_k fun K4 hK4 => ?_
  refine wp_region_lit ?_
  refine Vp hF (.int .i64 32) ?_; clear hF; intro a hF
  refine L_nil ?_
  refine hK4 _ _ ?_
  refine wp_ret ?_
  refine ret1 hF (v := .int .i64 32) rfl (resT (by kernel_rfl)) (by refine ⟨?_, hO.nil⟩; unfold widthIp; simp [*]) .ret (.inl rfl)
 ·
  replace hF := hF.know (d := 4) (v' := .bool true) (by kernel_rfl) (congrArg Value.bool q1)
  refine cond_t hF (by kernel_rfl) (by kernel_rfl) ?_
  refine wp_seq_k fun K5 hK5 => ?_
  refine wp_region_lit ?_
  refine Vp hF (.int .i64 128) ?_; clear hF; intro a hF
  refine L_nil ?_
  refine hK5 _ _ ?_
  refine wp_ret ?_
  refine then_ret ?_
  refine ret1 hF (v := .int .i64 128) rfl (resT (by kernel_rfl)) (by refine ⟨?_, hO.nil⟩; unfold widthIp; simp [*]) .ret (.inl rfl)

set_option maxRecDepth 20000 in
theorem cidr_cut (x : Ip) (n : Int) (W : World) (h0 : 0 ≤ n) (h1 : n ≤ 128) : Ret Tryz.prog 105 #[ipV x, .int .i64 (n)] W fun v W' => v = ipV (cutIp x n) ∧ Own W noX [] W' := by
 refine enter Tryz.func105 rfl (n := 28) rfl (by kernel_rfl) (E0 := [(1, .int .i64 (n)), (0, ipV x)]) (by kernel_rfl) ?_
 intro a hF; have hO := Own.start W noX
 refine wp_seq_k fun K1 hK1 => ?_
 refine wp_region_lit ?_
 refine L_new hF hO (by kernel_rfl) (by kernel_rfl) (vf := fun b => .pointer (some ⟨b, 0, none⟩)) (ob := .cells #[.bool x.six, .int .u8 ((x.b0.toNat : Int)), .int .u8 ((x.b1.toNat : Int)), .int .u8 ((x.b2.toNat : Int)), .int .u8 ((x.b3.toNat : Int)), .int .u8 ((x.b4.toNat : Int)), .int .u8 ((x.b5.toNat : Int)), .int .u8 ((x.b6.toNat : Int)), .int .u8 ((x.b7.toNat : Int)), .int .u8 ((x.b8.toNat : Int)), .int .u8 ((x.b9.toNat : Int)), .int .u8 ((x.b10.toNat : Int)), .int .u8 ((x.b11.toNat : Int)), .int .u8 ((x.b12.toNat : Int)), .int .u8 ((x.b13.toNat : Int)), .int .u8 ((x.b14.toNat : Int)), .int .u8 ((x.b15.toNat : Int))] 33) (by kernel_rfl) (by kernel_rfl) ?_
 clear hF hO; intro b1 W1 a hO hF
 replace hO := hO.reblk (cs := #[.bool x.six, .int .u8 ((x.b0.toNat : Int)), .int .u8 ((x.b1.toNat : Int)), .int .u8 ((x.b2.toNat : Int)), .int .u8 ((x.b3.toNat : Int)), .int .u8 ((x.b4.toNat : Int)), .int .u8 ((x.b5.toNat : Int)), .int .u8 ((x.b6.toNat : Int)), .int .u8 ((x.b7.toNat : Int)), .int .u8 ((x.b8.toNat : Int)), .int .u8 ((x.b9.toNat : Int)), .int .u8 ((x.b10.toNat : Int)), .int .u8 ((x.b11.toNat : Int)), .int .u8 ((x.b12.toNat : Int)), .int .u8 ((x.b13.toNat : Int)), .int .u8 ((x.b14.toNat : Int)), .int .u8 ((x.b15.toNat : Int))]) (cs' := (ipL x).toArray) (by kernel_rfl) (.head _)
 refine L_new hF hO (by kernel_rfl) (by kernel_rfl) (vf := fun b => .pointer (some ⟨b, 0, none⟩)) (ob := .cells zFCidrW 33) (by kernel_rfl) (by kernel_rfl) ?_
 clear hF hO; intro b2 W2 a hO hF
 refine L_nil ?_
 refine hK1 _ _ ?_
 refine wp_seq_k fun K2 hK2 => ?_
 refine wp_seq_k fun K3 hK3 => ?_
 refine wp_region_lit ?_
 refine Vp hF (.int .i64 0) ?_; clear hF; intro a hF
 refine L_nil ?_
 refine hK3 _ _ ?_
 refine wp_block ?_
 refine loopX (τ := Nat) (fun (i : Nat) a Wx => (i ≤ 16) ∧ Fr 28 a [(1, .int .i64 (n)), (2, .pointer (some ⟨b1, 0, none⟩)), (4, .pointer (some ⟨b2, 0, none⟩)), (7, .int .i64 ((i : Int)))] ∧ Own W noX [.blk b2 (.cells zFCidrW 33 (0, 0)), .blk b1 (.cells (ipL (mixIp x n i)).toArray 33 (0, 0))] Wx) (fun (i : Nat) => 16 - i) (0) ⟨by omega, ?_, ?_⟩ ?_
 · exact hF.restrict ⟨(by kernel_rfl), (by kernel_rfl), (by kernel_rfl), (congrArg some (by first | rfl | exact congrArg (Value.int _) (by omega) | simp)), trivial⟩
 · exact hO.sub (.cons_cons _ (.cons_cons _ (List.nil_sublist _)))
 clear hF hO; rintro i a Wl1 ⟨hI, hF, hO⟩ KhK_1 hK_1
 try dsimp only at hI
 refine wp_seq_k fun K4 hK4 => ?_
 refine wp_region_lit ?_
 refine Vp hF (.bool (decide ((i : Int) < 16))) ?_; clear hF; intro a hF
 refine L_nil ?_
 refine hK4 _ _ ?_
 refine wp_seq_k fun K5 hK5 => ?_
 by_cases q1 : (i : Int) < 16
 ·
  replace hF := hF.know (d := 8) (v' := .bool true) (by kernel_rfl) (congrArg Value.bool (decide_eq_true q1))
  refine cond_t hF (by kernel_rfl) (by kernel_rfl) ?_
  refine wp_skip ?_
  refine hK5 _ _ ?_
  refine wp_seq_k fun K6 hK6 => ?_
  refine wp_block ?_
  refine wp_seq_k fun K7 hK7 => ?_
  refine wp_region_lit ?_
  refine Vp hF (.int .i64 ((i : Int))) ?_; clear hF; intro a hF
  refine Vp hF (.int .i64 ((i : Int))) ?_; clear hF; intro a hF
  refine L_nil ?_
  refine hK7 _ _ ?_
  refine wp_seq_k fun K8 hK8 => ?_
  refine wp_region_lit ?_
  refine Vp hF (.int .i64 (n)) ?_; clear hF; intro a hF
  refine Vp hF (.int .i64 ((i : Int))) ?_; clear hF; intro a hF
  refine Vr hF (.int .i64 (8 * (i : Int))) (x_int (x := IntKind.i64.wrap (8 * (i : Int))) (i64In (by omega) (by omega)) (by kernel_rfl)) ?_; clear hF; intro a hF
  refine Vr hF (.int .i64 (n - (8 * (i : Int)))) (x_int (x := IntKind.i64.wrap (n - (8 * (i : Int)))) (i64In (by omega) (by omega)) (by kernel_rfl)) ?_; clear hF; intro a hF
  refine Vr hF (.int .i64 (max (n - (8 * (i : Int))) 0)) (x_int (maxI (n - (8 * (i : Int))) 0) (by kernel_rfl)) ?_; clear hF; intro a hF
  refine Vr hF (.int .i64 (min (max (n - (8 * (i : Int))) 0) 8)) (x_int (minI (max (n - (8 * (i : Int))) 0) 8) (by kernel_rfl)) ?_; clear hF; intro a hF
  refine Vp hF (.int .i64 (min (max (n - (8 * (i : Int))) 0) 8)) ?_; clear hF; intro a hF
  refine L_nil ?_
  refine hK8 _ _ ?_
  refine A_start (fun Wx => Own W noX [.blk b2 (.cells zFCidrW 33 (0, 0))] Wx) (by kernel_rfl) ?_
  replace hO := hO.drewN 1
  generalize hWd : ({ Wl1 with drawn := Wl1.drawn + 1 } : World) = Wl1_d at hO ⊢; clear hWd
  have hS := hO.sub (.cons_cons _ (List.nil_sublist _))
  refine Tk 0 rfl hF (.int .i64 ((i : Int))) (fun Wx _ => by kernel_rfl) hS ?_; clear hF; intro a hF
  refine Tk 1 rfl hF (.pointer (some ⟨b1, 1, none⟩)) (fun Wx _ => by kernel_rfl) hS ?_; clear hF; intro a hF
  refine Tk 2 rfl hF (.pointer (some ⟨b1, 1 + i * 1, none⟩)) (fun Wx _ => (x_idxPtr (b := b1) (off := 1) (elem := 5) (len := 16) (kd := .i64) (k := 1) (i := (i : Int)) rfl (by kernel_rfl) (by kernel_rfl) (by kernel_rfl) (by kernel_rfl) (by omega) (by omega))) hS ?_; clear hF; intro a hF
  refine Tk 4 rfl hF (.int .i64 (min (max (n - (8 * (i : Int))) 0) 8)) (fun Wx _ => by kernel_rfl) hS ?_; clear hF; intro a hF
  refine Tk 5 rfl hF (.int .u16 (((65280 / 2 ^ keepK n i : Nat) : Int))) (fun Wx _ => (x_int (shr_keep n i) (x_shrV (k := .u16) (yk := .i64) (x := 65280) (y := min (max (n - (8 * (i : Int))) 0) 8) rfl (by kernel_rfl) (by kernel_rfl) (by omega)))) hS ?_; clear hF; intro a hF
  refine Tk 6 rfl hF (.int .u8 (((UInt8.ofNat (65280 / 2 ^ keepK n i)).toNat : Int))) (fun Wx _ => (x_int (x := IntKind.u8.wrap (((65280 / 2 ^ keepK n i : Nat) : Int))) (keep_conv n i) (by kernel_rfl))) hS ?_; clear hF; intro a hF
  refine Tk 8 rfl hF (.pointer (some ⟨b1, 1, none⟩)) (fun Wx _ => by kernel_rfl) hS ?_; clear hF; intro a hF
  refine A_one (i := 3) (listed' := #[true, true, true, true, true, true, true, false, true, false, false]) (by kernel_rfl) rfl (by kernel_rfl) ?_
  refine OpK.vr hF (.int .u8 ((((mixIp x n i).at i).toNat : Int))) (x_load (p := .pointer (some ⟨b1, 1 + i * 1, none⟩)) rfl (by kernel_rfl) (run_load_ip hO (List.mem_cons_of_mem _ List.mem_cons_self) (by kernel_rfl) (by (first | omega | (simp only [List.length_set, List.length_take, List.length_drop, List.length_append, List.length_cons, List.length_nil]; done) | (simp only [List.length_set, List.length_take, List.length_drop, List.length_append, List.length_cons, List.length_nil]; omega) | (simp only [List.length_set, List.length_take, List.length_drop, List.length_append, List.length_cons, List.length_nil] at *; omega))))) ?_; clear hF; intro a hF
  refine ⟨hO.sub (.cons_cons _ (List.nil_sublist _)), ?_⟩
  refine Tk 7 rfl hF (.int .u8 (((((mixIp x n i).at i) &&& (UInt8.ofNat (65280 / 2 ^ keepK n i))).toNat : Int))) (fun Wx _ => (x_int (and_u8 ((mixIp x n i).at i) (UInt8.ofNat (65280 / 2 ^ keepK n i))) (by kernel_rfl))) hS ?_; clear hF; intro a hF
  refine Tk 9 rfl hF (.pointer (some ⟨b1, 1 + i * 1, none⟩)) (fun Wx _ => (x_idxPtr (b := b1) (off := 1) (elem := 5) (len := 16) (kd := .i64) (k := 1) (i := (i : Int)) rfl (by kernel_rfl) (by kernel_rfl) (by kernel_rfl) (by kernel_rfl) (by omega) (by omega))) hS ?_; clear hF; intro a hF
  refine A_one (i := 10) (listed' := #[true, true, true, true, true, true, true, true, true, true, true]) (by kernel_rfl) rfl (by kernel_rfl) ?_
  obtain ⟨W3, hst, hO1⟩ := run_store_ip (P := Tryz.prog) (T := 5) (i := i) (v := (((mixIp x n i).at i) &&& (UInt8.ofNat (65280 / 2 ^ keepK n i)))) hO (by kernel_rfl) (by (first | omega | (simp only [List.length_set, List.length_take, List.length_drop, List.length_append, List.length_cons, List.length_nil]; done) | (simp only [List.length_set, List.length_take, List.length_drop, List.length_append, List.length_cons, List.length_nil]; omega) | (simp only [List.length_set, List.length_take, List.length_drop, List.length_append, List.length_cons, List.length_nil] at *; omega))) (.tail (.head _))
  refine OpK.skip hF (by kernel_rfl) (by kernel_rfl) (x_store (p := .pointer (some ⟨b1, 1 + i * 1, none⟩)) (v := .int .u8 (((((mixIp x n i).at i) &&& (UInt8.ofNat (65280 / 2 ^ keepK n i))).toNat : Int))) rfl (by kernel_rfl) (by kernel_rfl) hst) (by kernel_rfl) ?_
  clear hst hF; intro a hF; replace hO := hO1; clear hO1
  refine ⟨hO.sub (.cons_cons _ (List.nil_sublist _)), ?_⟩
  refine A_done (by kernel_rfl) ?_
  refine block_normal ?_
  refine hK6 _ _ ?_
  refine wp_region_lit ?_
  refine Vr hF (.int .i64 ((i : Int) + 1)) (x_int (x := IntKind.i64.wrap ((i : Int) + 1)) (i64In (by omega) (by omega)) (by kernel_rfl)) ?_; clear hF; intro a hF
  refine Vp hF (.int .i64 ((i : Int) + 1)) ?_; clear hF; intro a hF
  refine L_nil ?_
  refine hK_1 (i + 1) _ _ (by first | omega | (dsimp only; omega)) ⟨by omega, ?_, ?_⟩
  · exact hF.restrict ⟨(by kernel_rfl), (by kernel_rfl), (by kernel_rfl), (congrArg some (by first | rfl | exact congrArg (Value.int _) (by omega) | simp)), trivial⟩
  · exact hO.sub (.cons_cons _ (.cons_cons _ (List.nil_sublist _)))
 ·
  replace hF := hF.know (d := 8) (v' := .bool false) (by kernel_rfl) (congrArg Value.bool (decide_eq_false q1))
  refine cond_f hF (by kernel_rfl) (by kernel_rfl) ?_
  refine wp_exit ?_
  refine then_exit ?_
  refine then_exit ?_
  refine inBlock_hit ?_
  refine hK2 _ _ ?_
  refine wp_seq_k fun K9 hK9 => ?_
  refine wp_region_lit ?_
  refine Vr hF (ipV (mixIp x n i)) (x_load (p := .pointer (some ⟨b1, 0, none⟩)) rfl (by kernel_rfl) (run_loadA (k := 17) (by kernel_rfl) (by kernel_rfl) (hO.blk (List.mem_cons_of_mem _ List.mem_cons_self)) (by kernel_rfl) (by kernel_rfl))) ?_; clear hF; intro a hF
  obtain ⟨W4, hst, hO1⟩ := run_storeAt (P := Tryz.prog) (k := 17) (T := 33) (off := 0) (v := ipV (mixIp x n i)) (cs := zFCidrW) (cs' := (ipL (mixIp x n i)).toArray) hO (by kernel_rfl) (by kernel_rfl) (by kernel_rfl) (Nat.le_of_ble_eq_true (by kernel_rfl)) (by kernel_rfl) (.head _)
  refine L_skip hF (by kernel_rfl) (by kernel_rfl) (x_store (p := .pointer (some ⟨b2, 0, none⟩)) (v := ipV (mixIp x n i)) rfl (by kernel_rfl) (by kernel_rfl) hst) (by kernel_rfl) ?_
  clear hst hF; intro a hF; replace hO := hO1; clear hO1
  refine L_nil ?_
  refine hK9 _ _ ?_
  refine wp_ret ?_
  refine ret1 hF (v := ipV (mixIp x n i)) rfl (resC (ad := ⟨b2, 0, none⟩) (by kernel_rfl) (run_loadA (k := 17) (by kernel_rfl) (by kernel_rfl) (hO.blk List.mem_cons_self) (by kernel_rfl) (by kernel_rfl))) (by refine ⟨?_, hO.nil⟩; obtain rfl : i = 16 := (by omega); rfl) .ret (.inl rfl)

set_option maxRecDepth 20000 in
theorem cidr_fits (x : Ip) (n : Int) (W : World) : Ret Tryz.prog 104 #[ipV x, .int .i64 (n)] W fun v W' => v = .bool (fitsIp x n) ∧ Own W noX [] W' := by
 refine enter Tryz.func104 rfl (n := 13) rfl (by kernel_rfl) (E0 := [(1, .int .i64 (n)), (0, ipV x)]) (by kernel_rfl) ?_
 intro a hF; have hO := Own.start W noX
 refine wp_seq_k fun K1 hK1 => ?_
 refine wp_region_lit ?_
 refine L_new hF hO (by kernel_rfl) (by kernel_rfl) (vf := fun b => .pointer (some ⟨b, 0, none⟩)) (ob := .cells #[.bool x.six, .int .u8 ((x.b0.toNat : Int)), .int .u8 ((x.b1.toNat : Int)), .int .u8 ((x.b2.toNat : Int)), .int .u8 ((x.b3.toNat : Int)), .int .u8 ((x.b4.toNat : Int)), .int .u8 ((x.b5.toNat : Int)), .int .u8 ((x.b6.toNat : Int)), .int .u8 ((x.b7.toNat : Int)), .int .u8 ((x.b8.toNat : Int)), .int .u8 ((x.b9.toNat : Int)), .int .u8 ((x.b10.toNat : Int)), .int .u8 ((x.b11.toNat : Int)), .int .u8 ((x.b12.toNat : Int)), .int .u8 ((x.b13.toNat : Int)), .int .u8 ((x.b14.toNat : Int)), .int .u8 ((x.b15.toNat : Int))] 33) (by kernel_rfl) (by kernel_rfl) ?_
 clear hF hO; intro b1 W1 a hO hF
 replace hO := hO.reblk (cs := #[.bool x.six, .int .u8 ((x.b0.toNat : Int)), .int .u8 ((x.b1.toNat : Int)), .int .u8 ((x.b2.toNat : Int)), .int .u8 ((x.b3.toNat : Int)), .int .u8 ((x.b4.toNat : Int)), .int .u8 ((x.b5.toNat : Int)), .int .u8 ((x.b6.toNat : Int)), .int .u8 ((x.b7.toNat : Int)), .int .u8 ((x.b8.toNat : Int)), .int .u8 ((x.b9.toNat : Int)), .int .u8 ((x.b10.toNat : Int)), .int .u8 ((x.b11.toNat : Int)), .int .u8 ((x.b12.toNat : Int)), .int .u8 ((x.b13.toNat : Int)), .int .u8 ((x.b14.toNat : Int)), .int .u8 ((x.b15.toNat : Int))]) (cs' := (ipL x).toArray) (by kernel_rfl) (.head _)
 refine Vp hF (.bool false) ?_; clear hF; intro a hF
 refine L_nil ?_
 refine hK1 _ _ ?_
 refine wp_seq_k fun K2 hK2 => ?_
 refine wp_region_lit ?_
 refine Vp hF (.int .i64 (n)) ?_; clear hF; intro a hF
 refine Vp hF (.bool (decide (n ≥ 0))) ?_; clear hF; intro a hF
 refine Vp hF (.bool (decide (n ≥ 0))) ?_; clear hF; intro a hF
 by_cases q1 : n ≥ 0
 ·
  replace hF := hF.know (d := 7) (v' := .bool true) (by kernel_rfl) (congrArg Value.bool (decide_eq_true q1))
  refine Vp hF (.int .i64 (n)) ?_; clear hF; intro a hF
  refine Vr hF (ipV x) (x_load (p := .pointer (some ⟨b1, 0, none⟩)) rfl (by kernel_rfl) (run_loadA (k := 17) (by kernel_rfl) (by kernel_rfl) (hO.blk List.mem_cons_self) (by kernel_rfl) (by kernel_rfl))) ?_; clear hF; intro a hF
  refine Lc hF (addr_Bits x W1) ?_
  clear hF; rintro _ W2 a ⟨rfl, hk⟩ hF
  replace hO := hO.call0 hk; clear hk
  refine Vp hF (.bool (decide (n ≤ (widthIp x)))) ?_; clear hF; intro a hF
  refine Vp hF (.bool (decide (n ≤ (widthIp x)))) ?_; clear hF; intro a hF
  refine Vp hF (.bool (decide (n ≤ (widthIp x)))) ?_; clear hF; intro a hF
  refine L_nil ?_
  refine hK2 _ _ ?_
  refine wp_ret ?_
  refine ret1 hF (v := .bool (decide (n ≤ (widthIp x)))) rfl (resT (by kernel_rfl)) (by refine ⟨?_, hO.nil⟩; unfold fitsIp; simp [*]) .ret (.inl rfl)
 ·
  replace hF := hF.know (d := 7) (v' := .bool false) (by kernel_rfl) (congrArg Value.bool (decide_eq_false q1))
  refine Lo hF ?_; clear hF; intro a hF
  refine Lo hF ?_; clear hF; intro a hF
  refine Lo hF ?_; clear hF; intro a hF
  refine Lo hF ?_; clear hF; intro a hF
  refine Vp hF (.bool false) ?_; clear hF; intro a hF
  refine Vp hF (.bool false) ?_; clear hF; intro a hF
  refine L_nil ?_
  refine hK2 _ _ ?_
  refine wp_ret ?_
  refine ret1 hF (v := .bool false) rfl (resT (by kernel_rfl)) (by refine ⟨?_, hO.nil⟩; unfold fitsIp; simp [*]) .ret (.inl rfl)

set_option maxRecDepth 20000 in
theorem cidr_Right (c : Pt) (W : World) : Ret Tryz.prog 53 #[ptV c] W fun v W' => v = .bool (rightCd c) ∧ Own W noX [] W' := by
 refine enter Tryz.func53 rfl (n := 23) rfl (by kernel_rfl) (E0 := [(0, ptV c)]) (by kernel_rfl) ?_
 intro a hF; have hO := Own.start W noX
 refine wp_seq_k fun K1 hK1 => ?_
 refine wp_region_lit ?_
 refine L_new hF hO (by kernel_rfl) (by kernel_rfl) (vf := fun b => .pointer (some ⟨b, 0, none⟩)) (ob := .cells #[.bool c.ip.six, .int .u8 ((c.ip.b0.toNat : Int)), .int .u8 ((c.ip.b1.toNat : Int)), .int .u8 ((c.ip.b2.toNat : Int)), .int .u8 ((c.ip.b3.toNat : Int)), .int .u8 ((c.ip.b4.toNat : Int)), .int .u8 ((c.ip.b5.toNat : Int)), .int .u8 ((c.ip.b6.toNat : Int)), .int .u8 ((c.ip.b7.toNat : Int)), .int .u8 ((c.ip.b8.toNat : Int)), .int .u8 ((c.ip.b9.toNat : Int)), .int .u8 ((c.ip.b10.toNat : Int)), .int .u8 ((c.ip.b11.toNat : Int)), .int .u8 ((c.ip.b12.toNat : Int)), .int .u8 ((c.ip.b13.toNat : Int)), .int .u8 ((c.ip.b14.toNat : Int)), .int .u8 ((c.ip.b15.toNat : Int)), .int .i64 (c.port)] 68) (by kernel_rfl) (by kernel_rfl) ?_
 clear hF hO; intro b1 W1 a hO hF
 refine Vp hF (.bool false) ?_; clear hF; intro a hF
 refine L_nil ?_
 refine hK1 _ _ ?_
 refine wp_seq_k fun K2 hK2 => ?_
 refine A_start (fun Wx => Own W noX [.blk b1 (.cells #[.bool c.ip.six, .int .u8 ((c.ip.b0.toNat : Int)), .int .u8 ((c.ip.b1.toNat : Int)), .int .u8 ((c.ip.b2.toNat : Int)), .int .u8 ((c.ip.b3.toNat : Int)), .int .u8 ((c.ip.b4.toNat : Int)), .int .u8 ((c.ip.b5.toNat : Int)), .int .u8 ((c.ip.b6.toNat : Int)), .int .u8 ((c.ip.b7.toNat : Int)), .int .u8 ((c.ip.b8.toNat : Int)), .int .u8 ((c.ip.b9.toNat : Int)), .int .u8 ((c.ip.b10.toNat : Int)), .int .u8 ((c.ip.b11.toNat : Int)), .int .u8 ((c.ip.b12.toNat : Int)), .int .u8 ((c.ip.b13.toNat : Int)), .int .u8 ((c.ip.b14.toNat : Int)), .int .u8 ((c.ip.b15.toNat : Int)), .int .i64 (c.port)] 68 (0, 0))] Wx) (by kernel_rfl) ?_
 replace hO := hO.drewN 1
 generalize hWd : ({ W1 with drawn := W1.drawn + 1 } : World) = W1_d at hO ⊢; clear hWd
 have hS := hO.sub (.cons_cons _ (List.nil_sublist _))
 refine Tk 0 rfl hF (.pointer (some ⟨b1, 0, none⟩)) (fun Wx _ => by kernel_rfl) hS ?_; clear hF; intro a hF
 refine Tk 1 rfl hF (ipV c.ip) (fun Wx hO => x_load (p := .pointer (some ⟨b1, 0, none⟩)) rfl (by kernel_rfl) (run_loadA (k := 17) (by kernel_rfl) (by kernel_rfl) (hO.blk List.mem_cons_self) (by kernel_rfl) (by kernel_rfl))) hS ?_; clear hF; intro a hF
 refine A_one (i := 2) (listed' := #[true, true, true, false, false, false, false, false, false, false, false, false, false, false, false, false, false, false, false, false, false]) (by kernel_rfl) rfl (by kernel_rfl) ?_
 refine OpK.lc hF (addr_Right c.ip W1_d) ?_
 clear hF; rintro _ W2 a ⟨rfl, hk⟩ hF
 replace hO := hO.call0 hk; clear hk
 refine ⟨hO.sub (.cons_cons _ (List.nil_sublist _)), ?_⟩
 have hS := hO.sub (.cons_cons _ (List.nil_sublist _))
 refine Tk 3 rfl hF (.bool (rightIp c.ip)) (fun Wx _ => by kernel_rfl) hS ?_; clear hF; intro a hF
 cases q1 : (rightIp c.ip : Bool)
 ·
  replace hF := hF.know (d := 6) (v' := .bool false) (by kernel_rfl) (congrArg Value.bool q1)
  refine To 4 rfl hF hS ?_; clear hF; intro a hF
  refine To 5 rfl hF hS ?_; clear hF; intro a hF
  refine To 6 rfl hF hS ?_; clear hF; intro a hF
  refine To 7 rfl hF hS ?_; clear hF; intro a hF
  refine To 8 rfl hF hS ?_; clear hF; intro a hF
  refine Tk 9 rfl hF (.bool false) (fun Wx _ => by kernel_rfl) hS ?_; clear hF; intro a hF
  refine Tk 10 rfl hF (.bool false) (fun Wx _ => by kernel_rfl) hS ?_; clear hF; intro a hF
  refine To 11 rfl hF hS ?_; clear hF; intro a hF
  refine To 12 rfl hF hS ?_; clear hF; intro a hF
  refine To 13 rfl hF hS ?_; clear hF; intro a hF
  refine To 14 rfl hF hS ?_; clear hF; intro a hF
  refine To 15 rfl hF hS ?_; clear hF; intro a hF
  refine To 16 rfl hF hS ?_; clear hF; intro a hF
  refine To 17 rfl hF hS ?_; clear hF; intro a hF
  refine To 18 rfl hF hS ?_; clear hF; intro a hF
  refine Tk 19 rfl hF (.bool false) (fun Wx _ => by kernel_rfl) hS ?_; clear hF; intro a hF
  refine Tk 20 rfl hF (.bool false) (fun Wx _ => by kernel_rfl) hS ?_; clear hF; intro a hF
  refine A_done (by kernel_rfl) ?_
  refine hK2 _ _ ?_
  refine wp_ret ?_
  refine ret1 hF (v := .bool false) rfl (resT (by kernel_rfl)) (by refine ⟨?_, hO.nil⟩; unfold rightCd; simp [*]) .ret (.inl rfl)
 ·
  replace hF := hF.know (d := 6) (v' := .bool true) (by kernel_rfl) (congrArg Value.bool q1)
  refine Tk 4 rfl hF (.pointer (some ⟨b1, 0, none⟩)) (fun Wx _ => by kernel_rfl) hS ?_; clear hF; intro a hF
  refine Tk 5 rfl hF (ipV c.ip) (fun Wx hO => x_load (p := .pointer (some ⟨b1, 0, none⟩)) rfl (by kernel_rfl) (run_loadA (k := 17) (by kernel_rfl) (by kernel_rfl) (hO.blk List.mem_cons_self) (by kernel_rfl) (by kernel_rfl))) hS ?_; clear hF; intro a hF
  refine Tk 6 rfl hF (.pointer (some ⟨b1, 17, none⟩)) (fun Wx _ => by kernel_rfl) hS ?_; clear hF; intro a hF
  refine Tk 7 rfl hF (.int .i64 (c.port)) (fun Wx hO => x_load (p := .pointer (some ⟨b1, 17, none⟩)) rfl (by kernel_rfl) (run_load1 (by kernel_rfl) ((hO.cell List.mem_cons_self).trans (by kernel_rfl)))) hS ?_; clear hF; intro a hF
  refine A_one (i := 8) (listed' := #[true, true, true, true, true, true, true, true, true, false, false, false, false, false, false, false, false, false, false, false, false]) (by kernel_rfl) rfl (by kernel_rfl) ?_
  refine OpK.lc hF (cidr_fits c.ip c.port W2) ?_
  clear hF; rintro _ W3 a ⟨rfl, hk⟩ hF
  replace hO := hO.call0 hk; clear hk
  refine ⟨hO.sub (.cons_cons _ (List.nil_sublist _)), ?_⟩
  have hS := hO.sub (.cons_cons _ (List.nil_sublist _))
  refine Tk 9 rfl hF (.bool (fitsIp c.ip c.port)) (fun Wx _ => by kernel_rfl) hS ?_; clear hF; intro a hF
  refine Tk 10 rfl hF (.bool (fitsIp c.ip c.port)) (fun Wx _ => by kernel_rfl) hS ?_; clear hF; intro a hF
  cases q2 : (fitsIp c.ip c.port : Bool)
  ·
   replace hF := hF.know (d := 13) (v' := .bool false) (by kernel_rfl) (congrArg Value.bool q2)
   refine To 11 rfl hF hS ?_; clear hF; intro a hF
   refine To 12 rfl hF hS ?_; clear hF; intro a hF
   refine To 13 rfl hF hS ?_; clear hF; intro a hF
   refine To 14 rfl hF hS ?_; clear hF; intro a hF
   refine To 15 rfl hF hS ?_; clear hF; intro a hF
   refine To 16 rfl hF hS ?_; clear hF; intro a hF
   refine To 17 rfl hF hS ?_; clear hF; intro a hF
   refine To 18 rfl hF hS ?_; clear hF; intro a hF
   refine Tk 19 rfl hF (.bool false) (fun Wx _ => by kernel_rfl) hS ?_; clear hF; intro a hF
   refine Tk 20 rfl hF (.bool false) (fun Wx _ => by kernel_rfl) hS ?_; clear hF; intro a hF
   refine A_done (by kernel_rfl) ?_
   refine hK2 _ _ ?_
   refine wp_ret ?_
   refine ret1 hF (v := .bool false) rfl (resT (by kernel_rfl)) (by refine ⟨?_, hO.nil⟩; unfold rightCd; simp [*]) .ret (.inl rfl)
  ·
   replace hF := hF.know (d := 13) (v' := .bool true) (by kernel_rfl) (congrArg Value.bool q2)
   refine Tk 11 rfl hF (.pointer (some ⟨b1, 0, none⟩)) (fun Wx _ => by kernel_rfl) hS ?_; clear hF; intro a hF
   refine Tk 12 rfl hF (ipV c.ip) (fun Wx hO => x_load (p := .pointer (some ⟨b1, 0, none⟩)) rfl (by kernel_rfl) (run_loadA (k := 17) (by kernel_rfl) (by kernel_rfl) (hO.blk List.mem_cons_self) (by kernel_rfl) (by kernel_rfl))) hS ?_; clear hF; intro a hF
   refine Tk 13 rfl hF (.pointer (some ⟨b1, 17, none⟩)) (fun Wx _ => by kernel_rfl) hS ?_; clear hF; intro a hF
   refine Tk 14 rfl hF (.int .i64 (c.port)) (fun Wx hO => x_load (p := .pointer (some ⟨b1, 17, none⟩)) rfl (by kernel_rfl) (run_load1 (by kernel_rfl) ((hO.cell List.mem_cons_self).trans (by kernel_rfl)))) hS ?_; clear hF; intro a hF
   refine Tk 16 rfl hF (.pointer (some ⟨b1, 0, none⟩)) (fun Wx _ => by kernel_rfl) hS ?_; clear hF; intro a hF
   refine Tk 17 rfl hF (ipV c.ip) (fun Wx hO => x_load (p := .pointer (some ⟨b1, 0, none⟩)) rfl (by kernel_rfl) (run_loadA (k := 17) (by kernel_rfl) (by kernel_rfl) (hO.blk List.mem_cons_self) (by kernel_rfl) (by kernel_rfl))) hS ?_; clear hF; intro a hF
   refine A_one (i := 15) (listed' := #[true, true, true, true, true, true, true, true, true, true, true, true, true, true, true, true, true, true, false, false, false]) (by kernel_rfl) rfl (by kernel_rfl) ?_
   refine OpK.lc hF (cidr_cut c.ip c.port W3 (by (first | omega | (have hf : fitsIp c.ip c.port = true := (by assumption); have hw := width_le c.ip; simp only [fitsIp, Bool.and_eq_true, decide_eq_true_eq] at hf; omega))) (by (first | omega | (have hf : fitsIp c.ip c.port = true := (by assumption); have hw := width_le c.ip; simp only [fitsIp, Bool.and_eq_true, decide_eq_true_eq] at hf; omega)))) ?_
   clear hF; rintro _ W4 a ⟨rfl, hk⟩ hF
   replace hO := hO.call0 hk; clear hk
   refine ⟨hO.sub (.cons_cons _ (List.nil_sublist _)), ?_⟩
   have hS := hO.sub (.cons_cons _ (List.nil_sublist _))
   refine Tk 18 rfl hF (.bool (decide ((cutIp c.ip c.port) = c.ip))) (fun Wx _ => (x_eqIp (a := (cutIp c.ip c.port)) (b := c.ip) rfl (by kernel_rfl) (by kernel_rfl))) hS ?_; clear hF; intro a hF
   refine Tk 19 rfl hF (.bool (decide ((cutIp c.ip c.port) = c.ip))) (fun Wx _ => by kernel_rfl) hS ?_; clear hF; intro a hF
   refine Tk 20 rfl hF (.bool (decide ((cutIp c.ip c.port) = c.ip))) (fun Wx _ => by kernel_rfl) hS ?_; clear hF; intro a hF
   refine A_done (by kernel_rfl) ?_
   refine hK2 _ _ ?_
   refine wp_ret ?_
   refine ret1 hF (v := .bool (decide ((cutIp c.ip c.port) = c.ip))) rfl (resT (by kernel_rfl)) (by refine ⟨?_, hO.nil⟩; unfold rightCd; simp [*]) .ret (.inl rfl)

set_option maxRecDepth 20000 in
theorem cidr_Contains (c : Pt) (x : Ip) (W : World) : Ret Tryz.prog 57 #[ptV c, ipV x] W fun v W' => v = .bool (contCd c x) ∧ Own W noX [] W' := by
 refine enter Tryz.func57 rfl (n := 28) rfl (by kernel_rfl) (E0 := [(1, ipV x), (0, ptV c)]) (by kernel_rfl) ?_
 intro a hF; have hO := Own.start W noX
 refine wp_seq_k fun K1 hK1 => ?_
 refine wp_region_lit ?_
 refine L_new hF hO (by kernel_rfl) (by kernel_rfl) (vf := fun b => .pointer (some ⟨b, 0, none⟩)) (ob := .cells #[.bool c.ip.six, .int .u8 ((c.ip.b0.toNat : Int)), .int .u8 ((c.ip.b1.toNat : Int)), .int .u8 ((c.ip.b2.toNat : Int)), .int .u8 ((c.ip.b3.toNat : Int)), .int .u8 ((c.ip.b4.toNat : Int)), .int .u8 ((c.ip.b5.toNat : Int)), .int .u8 ((c.ip.b6.toNat : Int)), .int .u8 ((c.ip.b7.toNat : Int)), .int .u8 ((c.ip.b8.toNat : Int)), .int .u8 ((c.ip.b9.toNat : Int)), .int .u8 ((c.ip.b10.toNat : Int)), .int .u8 ((c.ip.b11.toNat : Int)), .int .u8 ((c.ip.b12.toNat : Int)), .int .u8 ((c.ip.b13.toNat : Int)), .int .u8 ((c.ip.b14.toNat : Int)), .int .u8 ((c.ip.b15.toNat : Int)), .int .i64 (c.port)] 68) (by kernel_rfl) (by kernel_rfl) ?_
 clear hF hO; intro b1 W1 a hO hF
 refine L_new hF hO (by kernel_rfl) (by kernel_rfl) (vf := fun b => .pointer (some ⟨b, 0, none⟩)) (ob := .cells #[.bool x.six, .int .u8 ((x.b0.toNat : Int)), .int .u8 ((x.b1.toNat : Int)), .int .u8 ((x.b2.toNat : Int)), .int .u8 ((x.b3.toNat : Int)), .int .u8 ((x.b4.toNat : Int)), .int .u8 ((x.b5.toNat : Int)), .int .u8 ((x.b6.toNat : Int)), .int .u8 ((x.b7.toNat : Int)), .int .u8 ((x.b8.toNat : Int)), .int .u8 ((x.b9.toNat : Int)), .int .u8 ((x.b10.toNat : Int)), .int .u8 ((x.b11.toNat : Int)), .int .u8 ((x.b12.toNat : Int)), .int .u8 ((x.b13.toNat : Int)), .int .u8 ((x.b14.toNat : Int)), .int .u8 ((x.b15.toNat : Int))] 33) (by kernel_rfl) (by kernel_rfl) ?_
 clear hF hO; intro b2 W2 a hO hF
 replace hO := hO.reblk (cs := #[.bool x.six, .int .u8 ((x.b0.toNat : Int)), .int .u8 ((x.b1.toNat : Int)), .int .u8 ((x.b2.toNat : Int)), .int .u8 ((x.b3.toNat : Int)), .int .u8 ((x.b4.toNat : Int)), .int .u8 ((x.b5.toNat : Int)), .int .u8 ((x.b6.toNat : Int)), .int .u8 ((x.b7.toNat : Int)), .int .u8 ((x.b8.toNat : Int)), .int .u8 ((x.b9.toNat : Int)), .int .u8 ((x.b10.toNat : Int)), .int .u8 ((x.b11.toNat : Int)), .int .u8 ((x.b12.toNat : Int)), .int .u8 ((x.b13.toNat : Int)), .int .u8 ((x.b14.toNat : Int)), .int .u8 ((x.b15.toNat : Int))]) (cs' := (ipL x).toArray) (by kernel_rfl) (.head _)
 refine Vp hF (.bool false) ?_; clear hF; intro a hF
 refine L_nil ?_
 refine hK1 _ _ ?_
 refine wp_seq_k fun K2 hK2 => ?_
 refine A_start (fun Wx => Own W noX [.blk b2 (.cells (ipL x).toArray 33 (0, 0)), .blk b1 (.cells #[.bool c.ip.six, .int .u8 ((c.ip.b0.toNat : Int)), .int .u8 ((c.ip.b1.toNat : Int)), .int .u8 ((c.ip.b2.toNat : Int)), .int .u8 ((c.ip.b3.toNat : Int)), .int .u8 ((c.ip.b4.toNat : Int)), .int .u8 ((c.ip.b5.toNat : Int)), .int .u8 ((c.ip.b6.toNat : Int)), .int .u8 ((c.ip.b7.toNat : Int)), .int .u8 ((c.ip.b8.toNat : Int)), .int .u8 ((c.ip.b9.toNat : Int)), .int .u8 ((c.ip.b10.toNat : Int)), .int .u8 ((c.ip.b11.toNat : Int)), .int .u8 ((c.ip.b12.toNat : Int)), .int .u8 ((c.ip.b13.toNat : Int)), .int .u8 ((c.ip.b14.toNat : Int)), .int .u8 ((c.ip.b15.toNat : Int)), .int .i64 (c.port)] 68 (0, 0))] Wx) (by kernel_rfl) ?_
 replace hO := hO.drewN 1
 generalize hWd : ({ W2 with drawn := W2.drawn + 1 } : World) = W2_d at hO ⊢; clear hWd
 have hS := hO.sub (.cons_cons _ (.cons_cons _ (List.nil_sublist _)))
 refine Tk 0 rfl hF (.agg #[.bool c.ip.six, .int .u8 ((c.ip.b0.toNat : Int)), .int .u8 ((c.ip.b1.toNat : Int)), .int .u8 ((c.ip.b2.toNat : Int)), .int .u8 ((c.ip.b3.toNat : Int)), .int .u8 ((c.ip.b4.toNat : Int)), .int .u8 ((c.ip.b5.toNat : Int)), .int .u8 ((c.ip.b6.toNat : Int)), .int .u8 ((c.ip.b7.toNat : Int)), .int .u8 ((c.ip.b8.toNat : Int)), .int .u8 ((c.ip.b9.toNat : Int)), .int .u8 ((c.ip.b10.toNat : Int)), .int .u8 ((c.ip.b11.toNat : Int)), .int .u8 ((c.ip.b12.toNat : Int)), .int .u8 ((c.ip.b13.toNat : Int)), .int .u8 ((c.ip.b14.toNat : Int)), .int .u8 ((c.ip.b15.toNat : Int)), .int .i64 (c.port)]) (fun Wx hO => x_load (p := .pointer (some ⟨b1, 0, none⟩)) rfl (by kernel_rfl) (run_loadA (k := 18) (by kernel_rfl) (by kernel_rfl) (hO.blk (List.mem_cons_of_mem _ List.mem_cons_self)) (by kernel_rfl) (by kernel_rfl))) hS ?_; clear hF; intro a hF
 refine A_one (i := 1) (listed' := #[true, true, false, false, false, false, false, false, false, false, false, false, false, false, false, false, false, false, false, false, false, false, false, false]) (by kernel_rfl) rfl (by kernel_rfl) ?_
 refine OpK.lc hF (cidr_Right c W2_d) ?_
 clear hF; rintro _ W3 a ⟨rfl, hk⟩ hF
 replace hO := hO.call0 hk; clear hk
 refine ⟨hO.sub (.cons_cons _ (.cons_cons _ (List.nil_sublist _))), ?_⟩
 have hS := hO.sub (.cons_cons _ (.cons_cons _ (List.nil_sublist _)))
 refine Tk 2 rfl hF (.bool (rightCd c)) (fun Wx _ => by kernel_rfl) hS ?_; clear hF; intro a hF
 cases q1 : (rightCd c : Bool)
 ·
  replace hF := hF.know (d := 7) (v' := .bool false) (by kernel_rfl) (congrArg Value.bool q1)
  refine To 3 rfl hF hS ?_; clear hF; intro a hF
  refine To 4 rfl hF hS ?_; clear hF; intro a hF
  refine Tk 5 rfl hF (.bool false) (fun Wx _ => by kernel_rfl) hS ?_; clear hF; intro a hF
  refine Tk 6 rfl hF (.bool false) (fun Wx _ => by kernel_rfl) hS ?_; clear hF; intro a hF
  refine To 7 rfl hF hS ?_; clear hF; intro a hF
  refine To 8 rfl hF hS ?_; clear hF; intro a hF
  refine To 9 rfl hF hS ?_; clear hF; intro a hF
  refine To 10 rfl hF hS ?_; clear hF; intro a hF
  refine To 11 rfl hF hS ?_; clear hF; intro a hF
  refine To 12 rfl hF hS ?_; clear hF; intro a hF
  refine Tk 13 rfl hF (.bool false) (fun Wx _ => by kernel_rfl) hS ?_; clear hF; intro a hF
  refine Tk 14 rfl hF (.bool false) (fun Wx _ => by kernel_rfl) hS ?_; clear hF; intro a hF
  refine To 15 rfl hF hS ?_; clear hF; intro a hF
  refine To 16 rfl hF hS ?_; clear hF; intro a hF
  refine To 17 rfl hF hS ?_; clear hF; intro a hF
  refine To 18 rfl hF hS ?_; clear hF; intro a hF
  refine To 19 rfl hF hS ?_; clear hF; intro a hF
  refine To 20 rfl hF hS ?_; clear hF; intro a hF
  refine To 21 rfl hF hS ?_; clear hF; intro a hF
  refine Tk 22 rfl hF (.bool false) (fun Wx _ => by kernel_rfl) hS ?_; clear hF; intro a hF
  refine Tk 23 rfl hF (.bool false) (fun Wx _ => by kernel_rfl) hS ?_; clear hF; intro a hF
  refine A_done (by kernel_rfl) ?_
  refine hK2 _ _ ?_
  refine wp_ret ?_
  refine ret1 hF (v := .bool false) rfl (resT (by kernel_rfl)) (by refine ⟨?_, hO.nil⟩; unfold contCd; simp [*]) .ret (.inl rfl)
 ·
  replace hF := hF.know (d := 7) (v' := .bool true) (by kernel_rfl) (congrArg Value.bool q1)
  refine Tk 3 rfl hF (ipV x) (fun Wx hO => x_load (p := .pointer (some ⟨b2, 0, none⟩)) rfl (by kernel_rfl) (run_loadA (k := 17) (by kernel_rfl) (by kernel_rfl) (hO.blk List.mem_cons_self) (by kernel_rfl) (by kernel_rfl))) hS ?_; clear hF; intro a hF
  refine A_one (i := 4) (listed' := #[true, true, true, true, true, false, false, false, false, false, false, false, false, false, false, false, false, false, false, false, false, false, false, false]) (by kernel_rfl) rfl (by kernel_rfl) ?_
  refine OpK.lc hF (addr_Right x W3) ?_
  clear hF; rintro _ W4 a ⟨rfl, hk⟩ hF
  replace hO := hO.call0 hk; clear hk
  refine ⟨hO.sub (.cons_cons _ (.cons_cons _ (List.nil_sublist _))), ?_⟩
  have hS := hO.sub (.cons_cons _ (.cons_cons _ (List.nil_sublist _)))
  refine Tk 5 rfl hF (.bool (rightIp x)) (fun Wx _ => by kernel_rfl) hS ?_; clear hF; intro a hF
  refine Tk 6 rfl hF (.bool (rightIp x)) (fun Wx _ => by kernel_rfl) hS ?_; clear hF; intro a hF
  cases q2 : (rightIp x : Bool)
  ·
   replace hF := hF.know (d := 11) (v' := .bool false) (by kernel_rfl) (congrArg Value.bool q2)
   refine To 7 rfl hF hS ?_; clear hF; intro a hF
   refine To 8 rfl hF hS ?_; clear hF; intro a hF
   refine To 9 rfl hF hS ?_; clear hF; intro a hF
   refine To 10 rfl hF hS ?_; clear hF; intro a hF
   refine To 11 rfl hF hS ?_; clear hF; intro a hF
   refine To 12 rfl hF hS ?_; clear hF; intro a hF
   refine Tk 13 rfl hF (.bool false) (fun Wx _ => by kernel_rfl) hS ?_; clear hF; intro a hF
   refine Tk 14 rfl hF (.bool false) (fun Wx _ => by kernel_rfl) hS ?_; clear hF; intro a hF
   refine To 15 rfl hF hS ?_; clear hF; intro a hF
   refine To 16 rfl hF hS ?_; clear hF; intro a hF
   refine To 17 rfl hF hS ?_; clear hF; intro a hF
   refine To 18 rfl hF hS ?_; clear hF; intro a hF
   refine To 19 rfl hF hS ?_; clear hF; intro a hF
   refine To 20 rfl hF hS ?_; clear hF; intro a hF
   refine To 21 rfl hF hS ?_; clear hF; intro a hF
   refine Tk 22 rfl hF (.bool false) (fun Wx _ => by kernel_rfl) hS ?_; clear hF; intro a hF
   refine Tk 23 rfl hF (.bool false) (fun Wx _ => by kernel_rfl) hS ?_; clear hF; intro a hF
   refine A_done (by kernel_rfl) ?_
   refine hK2 _ _ ?_
   refine wp_ret ?_
   refine ret1 hF (v := .bool false) rfl (resT (by kernel_rfl)) (by refine ⟨?_, hO.nil⟩; unfold contCd; simp [*]) .ret (.inl rfl)
  ·
   replace hF := hF.know (d := 11) (v' := .bool true) (by kernel_rfl) (congrArg Value.bool q2)
   refine Tk 7 rfl hF (.pointer (some ⟨b2, 0, none⟩)) (fun Wx _ => by kernel_rfl) hS ?_; clear hF; intro a hF
   refine Tk 8 rfl hF (.bool x.six) (fun Wx hO => x_load (p := .pointer (some ⟨b2, 0, none⟩)) rfl (by kernel_rfl) (run_load1 (by kernel_rfl) ((hO.cell List.mem_cons_self).trans (by kernel_rfl)))) hS ?_; clear hF; intro a hF
   refine Tk 9 rfl hF (.pointer (some ⟨b1, 0, none⟩)) (fun Wx _ => by kernel_rfl) hS ?_; clear hF; intro a hF
   refine Tk 10 rfl hF (.pointer (some ⟨b1, 0, none⟩)) (fun Wx _ => by kernel_rfl) hS ?_; clear hF; intro a hF
   refine Tk 11 rfl hF (.bool c.ip.six) (fun Wx hO => x_load (p := .pointer (some ⟨b1, 0, none⟩)) rfl (by kernel_rfl) (run_load1 (by kernel_rfl) ((hO.cell (List.mem_cons_of_mem _ List.mem_cons_self)).trans (by kernel_rfl)))) hS ?_; clear hF; intro a hF
   refine Tk 12 rfl hF (.bool (x.six == c.ip.six)) (fun Wx _ => by kernel_rfl) hS ?_; clear hF; intro a hF
   refine Tk 13 rfl hF (.bool (x.six == c.ip.six)) (fun Wx _ => by kernel_rfl) hS ?_; clear hF; intro a hF
   refine Tk 14 rfl hF (.bool (x.six == c.ip.six)) (fun Wx _ => by kernel_rfl) hS ?_; clear hF; intro a hF
   cases q3 : (x.six == c.ip.six : Bool)
   ·
    replace hF := hF.know (d := 19) (v' := .bool false) (by kernel_rfl) (congrArg Value.bool q3)
    refine To 15 rfl hF hS ?_; clear hF; intro a hF
    refine To 16 rfl hF hS ?_; clear hF; intro a hF
    refine To 17 rfl hF hS ?_; clear hF; intro a hF
    refine To 18 rfl hF hS ?_; clear hF; intro a hF
    refine To 19 rfl hF hS ?_; clear hF; intro a hF
    refine To 20 rfl hF hS ?_; clear hF; intro a hF
    refine To 21 rfl hF hS ?_; clear hF; intro a hF
    refine Tk 22 rfl hF (.bool false) (fun Wx _ => by kernel_rfl) hS ?_; clear hF; intro a hF
    refine Tk 23 rfl hF (.bool false) (fun Wx _ => by kernel_rfl) hS ?_; clear hF; intro a hF
    refine A_done (by kernel_rfl) ?_
    refine hK2 _ _ ?_
    refine wp_ret ?_
    refine ret1 hF (v := .bool false) rfl (resT (by kernel_rfl)) (by refine ⟨?_, hO.nil⟩; unfold contCd; simp [*]) .ret (.inl rfl)
   ·
    replace hF := hF.know (d := 19) (v' := .bool true) (by kernel_rfl) (congrArg Value.bool q3)
    refine Tk 15 rfl hF (ipV x) (fun Wx hO => x_load (p := .pointer (some ⟨b2, 0, none⟩)) rfl (by kernel_rfl) (run_loadA (k := 17) (by kernel_rfl) (by kernel_rfl) (hO.blk List.mem_cons_self) (by kernel_rfl) (by kernel_rfl))) hS ?_; clear hF; intro a hF
    refine Tk 16 rfl hF (.pointer (some ⟨b1, 17, none⟩)) (fun Wx _ => by kernel_rfl) hS ?_; clear hF; intro a hF
    refine Tk 17 rfl hF (.int .i64 (c.port)) (fun Wx hO => x_load (p := .pointer (some ⟨b1, 17, none⟩)) rfl (by kernel_rfl) (run_load1 (by kernel_rfl) ((hO.cell (List.mem_cons_of_mem _ List.mem_cons_self)).trans (by kernel_rfl)))) hS ?_; clear hF; intro a hF
    refine Tk 19 rfl hF (.pointer (some ⟨b1, 0, none⟩)) (fun Wx _ => by kernel_rfl) hS ?_; clear hF; intro a hF
    refine Tk 20 rfl hF (ipV c.ip) (fun Wx hO => x_load (p := .pointer (some ⟨b1, 0, none⟩)) rfl (by kernel_rfl) (run_loadA (k := 17) (by kernel_rfl) (by kernel_rfl) (hO.blk (List.mem_cons_of_mem _ List.mem_cons_self)) (by kernel_rfl) (by kernel_rfl))) hS ?_; clear hF; intro a hF
    refine A_one (i := 18) (listed' := #[true, true, true, true, true, true, true, true, true, true, true, true, true, true, true, true, true, true, true, true, true, false, false, false]) (by kernel_rfl) rfl (by kernel_rfl) ?_
    refine OpK.lc hF (cidr_cut x c.port W4 (by (first | omega | (have hb := rightCd_bd (c := c) (by assumption); have hw := width_le c.ip; omega))) (by (first | omega | (have hb := rightCd_bd (c := c) (by assumption); have hw := width_le c.ip; omega)))) ?_
    clear hF; rintro _ W5 a ⟨rfl, hk⟩ hF
    replace hO := hO.call0 hk; clear hk
    refine ⟨hO.sub (.cons_cons _ (.cons_cons _ (List.nil_sublist _))), ?_⟩
    have hS := hO.sub (.cons_cons _ (.cons_cons _ (List.nil_sublist _)))
    refine Tk 21 rfl hF (.bool (decide ((cutIp x c.port) = c.ip))) (fun Wx _ => (x_eqIp (a := (cutIp x c.port)) (b := c.ip) rfl (by kernel_rfl) (by kernel_rfl))) hS ?_; clear hF; intro a hF
    refine Tk 22 rfl hF (.bool (decide ((cutIp x c.port) = c.ip))) (fun Wx _ => by kernel_rfl) hS ?_; clear hF; intro a hF
    refine Tk 23 rfl hF (.bool (decide ((cutIp x c.port) = c.ip))) (fun Wx _ => by kernel_rfl) hS ?_; clear hF; intro a hF
    refine A_done (by kernel_rfl) ?_
    refine hK2 _ _ ?_
    refine wp_ret ?_
    refine ret1 hF (v := .bool (decide ((cutIp x c.port) = c.ip))) rfl (resT (by kernel_rfl)) (by refine ⟨?_, hO.nil⟩; unfold contCd; simp [*]) .ret (.inl rfl)

set_option maxRecDepth 20000 in
theorem ref03_bit (x : Ip) (i : Nat) (W : World) (hi : i < 128) : Ret Tryz.prog 108 #[ipV x, .int .i64 ((i : Int))] W fun v W' => v = .int .i64 (bitAt x i : Int) ∧ Own W noX [] W' := by
 refine enter Tryz.func108 rfl (n := 16) rfl (by kernel_rfl) (E0 := [(1, .int .i64 ((i : Int))), (0, ipV x)]) (by kernel_rfl) ?_
 intro a hF; have hO := Own.start W noX
 refine wp_seq_k fun K1 hK1 => ?_
 refine wp_region_lit ?_
 refine L_new hF hO (by kernel_rfl) (by kernel_rfl) (vf := fun b => .pointer (some ⟨b, 0, none⟩)) (ob := .cells #[.bool x.six, .int .u8 ((x.b0.toNat : Int)), .int .u8 ((x.b1.toNat : Int)), .int .u8 ((x.b2.toNat : Int)), .int .u8 ((x.b3.toNat : Int)), .int .u8 ((x.b4.toNat : Int)), .int .u8 ((x.b5.toNat : Int)), .int .u8 ((x.b6.toNat : Int)), .int .u8 ((x.b7.toNat : Int)), .int .u8 ((x.b8.toNat : Int)), .int .u8 ((x.b9.toNat : Int)), .int .u8 ((x.b10.toNat : Int)), .int .u8 ((x.b11.toNat : Int)), .int .u8 ((x.b12.toNat : Int)), .int .u8 ((x.b13.toNat : Int)), .int .u8 ((x.b14.toNat : Int)), .int .u8 ((x.b15.toNat : Int))] 33) (by kernel_rfl) (by kernel_rfl) ?_
 clear hF hO; intro b1 W1 a hO hF
 replace hO := hO.reblk (cs := #[.bool x.six, .int .u8 ((x.b0.toNat : Int)), .int .u8 ((x.b1.toNat : Int)), .int .u8 ((x.b2.toNat : Int)), .int .u8 ((x.b3.toNat : Int)), .int .u8 ((x.b4.toNat : Int)), .int .u8 ((x.b5.toNat : Int)), .int .u8 ((x.b6.toNat : Int)), .int .u8 ((x.b7.toNat : Int)), .int .u8 ((x.b8.toNat : Int)), .int .u8 ((x.b9.toNat : Int)), .int .u8 ((x.b10.toNat : Int)), .int .u8 ((x.b11.toNat : Int)), .int .u8 ((x.b12.toNat : Int)), .int .u8 ((x.b13.toNat : Int)), .int .u8 ((x.b14.toNat : Int)), .int .u8 ((x.b15.toNat : Int))]) (cs' := (ipL x).toArray) (by kernel_rfl) (.head _)
 refine Vp hF (.int .i64 0) ?_; clear hF; intro a hF
 refine L_nil ?_
 refine hK1 _ _ ?_
 refine wp_seq_k fun K2 hK2 => ?_
 refine wp_region_lit ?_
 refine Vp hF (.int .i64 ((i : Int))) ?_; clear hF; intro a hF
 refine Vr hF (.int .i64 (((i / 8 : Nat) : Int))) (x_int (x := IntKind.i64.wrap (Int.tdiv (i : Int) 8)) (quo8 (by omega)) (by kernel_rfl)) ?_; clear hF; intro a hF
 refine Vp hF (.pointer (some ⟨b1, 1, none⟩)) ?_; clear hF; intro a hF
 refine Vr hF (.pointer (some ⟨b1, 1 + (i / 8) * 1, none⟩)) (x_idxPtr (b := b1) (off := 1) (elem := 5) (len := 16) (kd := .i64) (k := 1) (i := ((i / 8 : Nat) : Int)) rfl (by kernel_rfl) (by kernel_rfl) (by kernel_rfl) (by kernel_rfl) (by omega) (by omega)) ?_; clear hF; intro a hF
 refine Vr hF (.int .u8 (((x.at (i / 8)).toNat : Int))) (x_load (p := .pointer (some ⟨b1, 1 + (i / 8) * 1, none⟩)) rfl (by kernel_rfl) (run_load_ip hO List.mem_cons_self (by kernel_rfl) (by (first | omega | (simp only [List.length_set, List.length_take, List.length_drop, List.length_append, List.length_cons, List.length_nil]; done) | (simp only [List.length_set, List.length_take, List.length_drop, List.length_append, List.length_cons, List.length_nil]; omega) | (simp only [List.length_set, List.length_take, List.length_drop, List.length_append, List.length_cons, List.length_nil] at *; omega))))) ?_; clear hF; intro a hF
 refine Vr hF (.int .i64 (((x.at (i / 8)).toNat : Int))) (x_int (x := IntKind.i64.wrap (((x.at (i / 8)).toNat : Int))) (i64In (by have := UInt8.toNat_lt (x.at (i / 8)); omega) (by have := UInt8.toNat_lt (x.at (i / 8)); omega)) (by kernel_rfl)) ?_; clear hF; intro a hF
 refine Vp hF (.int .i64 ((i : Int))) ?_; clear hF; intro a hF
 refine Vr hF (.int .i64 ((i : Int) % 8)) (x_int (x := Int.tmod (i : Int) 8) (rem_pos (by omega)) (by kernel_rfl)) ?_; clear hF; intro a hF
 refine Vr hF (.int .i64 (7 - ((i : Int) % 8))) (x_int (x := IntKind.i64.wrap (7 - ((i : Int) % 8))) (i64In (by omega) (by omega)) (by kernel_rfl)) ?_; clear hF; intro a hF
 refine Vr hF (.int .i64 ((((x.at (i / 8)).toNat / 2 ^ (7 - i % 8) : Nat) : Int))) (x_int (shr_bit (x.at (i / 8)) i) (x_shrV (k := .i64) (yk := .i64) (x := ((x.at (i / 8)).toNat : Int)) (y := 7 - ((i : Int) % 8)) rfl (by kernel_rfl) (by kernel_rfl) (by omega))) ?_; clear hF; intro a hF
 refine Vr hF (.int .i64 ((bitAt x i : Int))) (x_int (x := Int.tmod ((((x.at (i / 8)).toNat / 2 ^ (7 - i % 8) : Nat) : Int)) 2) (bit_rem x i) (by kernel_rfl)) ?_; clear hF; intro a hF
 refine Vp hF (.int .i64 ((bitAt x i : Int))) ?_; clear hF; intro a hF
 refine L_nil ?_
 refine hK2 _ _ ?_
 refine wp_ret ?_
 refine ret1 hF (v := .int .i64 ((bitAt x i : Int))) rfl (resT (by kernel_rfl)) (by refine ⟨?_, hO.nil⟩; first | rfl | (simp [*]; done)) .ret (.inl rfl)

set_option maxRecDepth 20000 in
theorem ref03_Zero (x : Ip) (m : Nat) (W : World) (hm : m ≤ 128) : Ret Tryz.prog 106 #[ipV x, .int .i64 ((m : Int))] W fun v W' => (∃ r, v = .bool r ∧ (r = true ↔ ZeroIp x (m : Int))) ∧ Own W noX [] W' := by
 have hw := width_le x
 refine enter Tryz.func106 rfl (n := 17) rfl (by kernel_rfl) (E0 := [(1, .int .i64 ((m : Int))), (0, ipV x)]) (by kernel_rfl) ?_
 intro a hF; have hO := Own.start W noX
 refine wp_seq_k fun K1 hK1 => ?_
 refine wp_region_lit ?_
 refine L_new hF hO (by kernel_rfl) (by kernel_rfl) (vf := fun b => .pointer (some ⟨b, 0, none⟩)) (ob := .cells #[.bool x.six, .int .u8 ((x.b0.toNat : Int)), .int .u8 ((x.b1.toNat : Int)), .int .u8 ((x.b2.toNat : Int)), .int .u8 ((x.b3.toNat : Int)), .int .u8 ((x.b4.toNat : Int)), .int .u8 ((x.b5.toNat : Int)), .int .u8 ((x.b6.toNat : Int)), .int .u8 ((x.b7.toNat : Int)), .int .u8 ((x.b8.toNat : Int)), .int .u8 ((x.b9.toNat : Int)), .int .u8 ((x.b10.toNat : Int)), .int .u8 ((x.b11.toNat : Int)), .int .u8 ((x.b12.toNat : Int)), .int .u8 ((x.b13.toNat : Int)), .int .u8 ((x.b14.toNat : Int)), .int .u8 ((x.b15.toNat : Int))] 33) (by kernel_rfl) (by kernel_rfl) ?_
 clear hF hO; intro b1 W1 a hO hF
 replace hO := hO.reblk (cs := #[.bool x.six, .int .u8 ((x.b0.toNat : Int)), .int .u8 ((x.b1.toNat : Int)), .int .u8 ((x.b2.toNat : Int)), .int .u8 ((x.b3.toNat : Int)), .int .u8 ((x.b4.toNat : Int)), .int .u8 ((x.b5.toNat : Int)), .int .u8 ((x.b6.toNat : Int)), .int .u8 ((x.b7.toNat : Int)), .int .u8 ((x.b8.toNat : Int)), .int .u8 ((x.b9.toNat : Int)), .int .u8 ((x.b10.toNat : Int)), .int .u8 ((x.b11.toNat : Int)), .int .u8 ((x.b12.toNat : Int)), .int .u8 ((x.b13.toNat : Int)), .int .u8 ((x.b14.toNat : Int)), .int .u8 ((x.b15.toNat : Int))]) (cs' := (ipL x).toArray) (by kernel_rfl) (.head _)
 refine Vp hF (.bool false) ?_; clear hF; intro a hF
 refine L_nil ?_
 refine hK1 _ _ ?_
 refine wp_seq_k fun K2 hK2 => ?_
 refine wp_seq_k fun K3 hK3 => ?_
 refine wp_region_lit ?_
 refine Vp hF (.int .i64 ((m : Int))) ?_; clear hF; intro a hF
 refine Vp hF (.int .i64 ((m : Int))) ?_; clear hF; intro a hF
 refine L_nil ?_
 refine hK3 _ _ ?_
 refine wp_block ?_
 refine loopX (τ := Nat) (fun (i : Nat) a Wx => (m ≤ i ∧ i ≤ 128 ∧ ∀ j : Nat, m ≤ j → j < i → bitAt x j = 0) ∧ Fr 17 a [(2, .pointer (some ⟨b1, 0, none⟩)), (5, .int .i64 ((i : Int)))] ∧ Own W noX [.blk b1 (.cells (ipL x).toArray 33 (0, 0))] Wx) (fun (i : Nat) => 128 - i) (m) ⟨⟨Nat.le_refl _, hm, fun j h1 h2 => by omega⟩, ?_, ?_⟩ ?_
 · exact hF.restrict ⟨(by kernel_rfl), (congrArg some (by first | rfl | exact congrArg (Value.int _) (by omega) | simp)), trivial⟩
 · exact hO.sub (.cons_cons _ (List.nil_sublist _))
 clear hF hO; rintro i a Wl1 ⟨hI, hF, hO⟩ KhK_1 hK_1
 try dsimp only at hI
 refine wp_seq_k fun K4 hK4 => ?_
 refine wp_seq_k fun K5 hK5 => ?_
 refine wp_region_lit ?_
 refine Vp hF (.int .i64 ((i : Int))) ?_; clear hF; intro a hF
 refine Vr hF (ipV x) (x_load (p := .pointer (some ⟨b1, 0, none⟩)) rfl (by kernel_rfl) (run_loadA (k := 17) (by kernel_rfl) (by kernel_rfl) (hO.blk List.mem_cons_self) (by kernel_rfl) (by kernel_rfl))) ?_; clear hF; intro a hF
 refine Lc hF (ref03_Width x Wl1) ?_
 clear hF; rintro _ W2 a ⟨rfl, hk⟩ hF
 replace hO := hO.call0 hk; clear hk
 refine Vp hF (.bool (decide ((i : Int) < (widthIp x)))) ?_; clear hF; intro a hF
 refine L_nil ?_
 refine hK5 _ _ ?_
 by_cases q1 : (i : Int) < (widthIp x)
 ·
  replace hF := hF.know (d := 10) (v' := .bool true) (by kernel_rfl) (congrArg Value.bool (decide_eq_true q1))
  refine cond_t hF (by kernel_rfl) (by kernel_rfl) ?_
  refine wp_skip ?_
  refine hK4 _ _ ?_
  refine wp_seq_k fun K6 hK6 => ?_
  refine wp_block ?_
  refine wp_seq_k fun K7 hK7 => ?_
  refine wp_region_lit ?_
  refine Vr hF (ipV x) (x_load (p := .pointer (some ⟨b1, 0, none⟩)) rfl (by kernel_rfl) (run_loadA (k := 17) (by kernel_rfl) (by kernel_rfl) (hO.blk List.mem_cons_self) (by kernel_rfl) (by kernel_rfl))) ?_; clear hF; intro a hF
  refine Vp hF (.int .i64 ((i : Int))) ?_; clear hF; intro a hF
  refine Lc hF (ref03_bit x i W2 (by omega)) ?_
  clear hF; rintro _ W3 a ⟨rfl, hk⟩ hF
  replace hO := hO.call0 hk; clear hk
  refine Vp hF (.bool (!((bitAt x i : Int) == 0))) ?_; clear hF; intro a hF
  refine L_nil ?_
  refine hK7 _ _ ?_
  by_cases q2 : (bitAt x i : Int) = 0
  ·
   replace hF := hF.know (d := 16) (v' := .bool false) (by kernel_rfl) (congrArg Value.bool (neF (not_not_intro q2)))
   refine cond_f hF (by kernel_rfl) (by kernel_rfl) ?_
   refine wp_skip ?_
   refine block_normal ?_
   refine hK6 _ _ ?_
   refine wp_region_lit ?_
   refine Vp hF (.int .i64 ((i : Int))) ?_; clear hF; intro a hF
   refine Vr hF (.int .i64 ((i : Int) + 1)) (x_int (x := IntKind.i64.wrap ((i : Int) + 1)) (i64In (by omega) (by omega)) (by kernel_rfl)) ?_; clear hF; intro a hF
   refine Vp hF (.int .i64 ((i : Int) + 1)) ?_; clear hF; intro a hF
   refine L_nil ?_
   refine hK_1 (i + 1) _ _ (by first | omega | (dsimp only; omega)) ⟨⟨by omega, by omega, fun j h1 h2 => by rcases Nat.lt_or_ge j i with h | h; exact hI.2.2 j h1 h; obtain rfl : j = i := (by omega); omega⟩, ?_, ?_⟩
   · exact hF.restrict ⟨(by kernel_rfl), (congrArg some (by first | rfl | exact congrArg (Value.int _) (by omega) | simp)), trivial⟩
   · exact hO.sub (.cons_cons _ (List.nil_sublist _))
  ·
   replace hF := hF.know (d := 16) (v' := .bool true) (by kernel_rfl) (congrArg Value.bool (neT q2))
   refine cond_t hF (by kernel_rfl) (by kernel_rfl) ?_
   refine wp_seq_k fun K8 hK8 => ?_
   refine wp_region_lit ?_
   refine Vp hF (.bool false) ?_; clear hF; intro a hF
   refine L_nil ?_
   refine hK8 _ _ ?_
   refine wp_ret ?_
   refine block_ret ?_
   refine then_ret ?_
   refine then_ret ?_
   refine block_ret ?_
   refine then_ret ?_
   refine ret1 hF (v := .bool false) rfl (resT (by kernel_rfl)) (by refine ⟨?_, hO.nil⟩; first | exact ⟨false, rfl, ⟨fun h => Bool.noConfusion h, fun h => absurd (show bitAt x i = 0 from h i (by omega) (by omega)) (by omega)⟩⟩ | exact ⟨true, rfl, ⟨fun _ j h1 h2 => hI.2.2 j (by omega) (by omega), fun _ => rfl⟩⟩) .ret (.inl rfl)
 ·
  replace hF := hF.know (d := 10) (v' := .bool false) (by kernel_rfl) (congrArg Value.bool (decide_eq_false q1))
  refine cond_f hF (by kernel_rfl) (by kernel_rfl) ?_
  refine wp_exit ?_
  refine then_exit ?_
  refine then_exit ?_
  refine inBlock_hit ?_
  refine hK2 _ _ ?_
  refine wp_seq_k fun K9 hK9 => ?_
  refine wp_region_lit ?_
  refine Vp hF (.bool true) ?_; clear hF; intro a hF
  refine L_nil ?_
  refine hK9 _ _ ?_
  refine wp_ret ?_
  refine ret1 hF (v := .bool true) rfl (resT (by kernel_rfl)) (by refine ⟨?_, hO.nil⟩; first | exact ⟨false, rfl, ⟨fun h => Bool.noConfusion h, fun h => absurd (show bitAt x i = 0 from h i (by omega) (by omega)) (by omega)⟩⟩ | exact ⟨true, rfl, ⟨fun _ j h1 h2 => hI.2.2 j (by omega) (by omega), fun _ => rfl⟩⟩) .ret (.inl rfl)

theorem ref03_ZeroI (x : Ip) (n : Int) (W : World) (h0 : 0 ≤ n) (h1 : n ≤ 128) (hr : rightIp x = true) : Ret Tryz.prog 106 #[ipV x, .int .i64 n] W fun v W' => v = .bool (decide (cutIp x n = x)) ∧ Own W noX [] W' := by
  obtain ⟨m, rfl⟩ := Int.eq_ofNat_of_zero_le h0
  refine (ref03_Zero x m W (by omega)).mono fun v W' h => ?_
  obtain ⟨⟨r, e1, e2⟩, h2⟩ := h
  exact ⟨by rw [e1, zero_ret hr e2], h2⟩
set_option maxRecDepth 20000 in
theorem ref03_Right (c : Pt) (W : World) : Ret Tryz.prog 54 #[ptV c] W fun v W' => v = .bool (rightCd c) ∧ Own W noX [] W' := by
 refine enter Tryz.func54 rfl (n := 26) rfl (by kernel_rfl) (E0 := [(0, ptV c)]) (by kernel_rfl) ?_
 intro a hF; have hO := Own.start W noX
 refine wp_seq_k fun K1 hK1 => ?_
 refine wp_region_lit ?_
 refine L_new hF hO (by kernel_rfl) (by kernel_rfl) (vf := fun b => .pointer (some ⟨b, 0, none⟩)) (ob := .cells #[.bool c.ip.six, .int .u8 ((c.ip.b0.toNat : Int)), .int .u8 ((c.ip.b1.toNat : Int)), .int .u8 ((c.ip.b2.toNat : Int)), .int .u8 ((c.ip.b3.toNat : Int)), .int .u8 ((c.ip.b4.toNat : Int)), .int .u8 ((c.ip.b5.toNat : Int)), .int .u8 ((c.ip.b6.toNat : Int)), .int .u8 ((c.ip.b7.toNat : Int)), .int .u8 ((c.ip.b8.toNat : Int)), .int .u8 ((c.ip.b9.toNat : Int)), .int .u8 ((c.ip.b10.toNat : Int)), .int .u8 ((c.ip.b11.toNat : Int)), .int .u8 ((c.ip.b12.toNat : Int)), .int .u8 ((c.ip.b13.toNat : Int)), .int .u8 ((c.ip.b14.toNat : Int)), .int .u8 ((c.ip.b15.toNat : Int)), .int .i64 (c.port)] 68) (by kernel_rfl) (by kernel_rfl) ?_
 clear hF hO; intro b1 W1 a hO hF
 refine Vp hF (.bool false) ?_; clear hF; intro a hF
 refine L_nil ?_
 refine hK1 _ _ ?_
 refine wp_seq_k fun K2 hK2 => ?_
 refine A_start (fun Wx => Own W noX [.blk b1 (.cells #[.bool c.ip.six, .int .u8 ((c.ip.b0.toNat : Int)), .int .u8 ((c.ip.b1.toNat : Int)), .int .u8 ((c.ip.b2.toNat : Int)), .int .u8 ((c.ip.b3.toNat : Int)), .int .u8 ((c.ip.b4.toNat : Int)), .int .u8 ((c.ip.b5.toNat : Int)), .int .u8 ((c.ip.b6.toNat : Int)), .int .u8 ((c.ip.b7.toNat : Int)), .int .u8 ((c.ip.b8.toNat : Int)), .int .u8 ((c.ip.b9.toNat : Int)), .int .u8 ((c.ip.b10.toNat : Int)), .int .u8 ((c.ip.b11.toNat : Int)), .int .u8 ((c.ip.b12.toNat : Int)), .int .u8 ((c.ip.b13.toNat : Int)), .int .u8 ((c.ip.b14.toNat : Int)), .int .u8 ((c.ip.b15.toNat : Int)), .int .i64 (c.port)] 68 (0, 0))] Wx) (by kernel_rfl) ?_
 replace hO := hO.drewN 1
 generalize hWd : ({ W1 with drawn := W1.drawn + 1 } : World) = W1_d at hO ⊢; clear hWd
 have hS := hO.sub (.cons_cons _ (List.nil_sublist _))
 refine Tk 0 rfl hF (.pointer (some ⟨b1, 0, none⟩)) (fun Wx _ => by kernel_rfl) hS ?_; clear hF; intro a hF
 refine Tk 1 rfl hF (ipV c.ip) (fun Wx hO => x_load (p := .pointer (some ⟨b1, 0, none⟩)) rfl (by kernel_rfl) (run_loadA (k := 17) (by kernel_rfl) (by kernel_rfl) (hO.blk List.mem_cons_self) (by kernel_rfl) (by kernel_rfl))) hS ?_; clear hF; intro a hF
 refine A_one (i := 2) (listed' := #[true, true, true, false, false, false, false, false, false, false, false, false, false, false, false, false, false, false, false, false, false, false, false, false]) (by kernel_rfl) rfl (by kernel_rfl) ?_
 refine OpK.lc hF (ref02_Right c.ip W1_d) ?_
 clear hF; rintro _ W2 a ⟨rfl, hk⟩ hF
 replace hO := hO.call0 hk; clear hk
 refine ⟨hO.sub (.cons_cons _ (List.nil_sublist _)), ?_⟩
 have hS := hO.sub (.cons_cons _ (List.nil_sublist _))
 refine Tk 3 rfl hF (.bool (rightIp c.ip)) (fun Wx _ => by kernel_rfl) hS ?_; clear hF; intro a hF
 cases q1 : (rightIp c.ip : Bool)
 ·
  replace hF := hF.know (d := 6) (v' := .bool false) (by kernel_rfl) (congrArg Value.bool q1)
  refine To 4 rfl hF hS ?_; clear hF; intro a hF
  refine To 5 rfl hF hS ?_; clear hF; intro a hF
  refine To 6 rfl hF hS ?_; clear hF; intro a hF
  refine Tk 7 rfl hF (.bool false) (fun Wx _ => by kernel_rfl) hS ?_; clear hF; intro a hF
  refine Tk 8 rfl hF (.bool false) (fun Wx _ => by kernel_rfl) hS ?_; clear hF; intro a hF
  refine To 9 rfl hF hS ?_; clear hF; intro a hF
  refine To 10 rfl hF hS ?_; clear hF; intro a hF
  refine To 11 rfl hF hS ?_; clear hF; intro a hF
  refine To 12 rfl hF hS ?_; clear hF; intro a hF
  refine To 13 rfl hF hS ?_; clear hF; intro a hF
  refine To 14 rfl hF hS ?_; clear hF; intro a hF
  refine Tk 15 rfl hF (.bool false) (fun Wx _ => by kernel_rfl) hS ?_; clear hF; intro a hF
  refine Tk 16 rfl hF (.bool false) (fun Wx _ => by kernel_rfl) hS ?_; clear hF; intro a hF
  refine To 17 rfl hF hS ?_; clear hF; intro a hF
  refine To 18 rfl hF hS ?_; clear hF; intro a hF
  refine To 19 rfl hF hS ?_; clear hF; intro a hF
  refine To 20 rfl hF hS ?_; clear hF; intro a hF
  refine To 21 rfl hF hS ?_; clear hF; intro a hF
  refine Tk 22 rfl hF (.bool false) (fun Wx _ => by kernel_rfl) hS ?_; clear hF; intro a hF
  refine Tk 23 rfl hF (.bool false) (fun Wx _ => by kernel_rfl) hS ?_; clear hF; intro a hF
  refine A_done (by kernel_rfl) ?_
  refine hK2 _ _ ?_
  refine wp_ret ?_
  refine ret1 hF (v := .bool false) rfl (resT (by kernel_rfl)) (by refine ⟨?_, hO.nil⟩; unfold rightCd fitsIp; simp [*]) .ret (.inl rfl)
 ·
  replace hF := hF.know (d := 6) (v' := .bool true) (by kernel_rfl) (congrArg Value.bool q1)
  refine Tk 4 rfl hF (.pointer (some ⟨b1, 17, none⟩)) (fun Wx _ => by kernel_rfl) hS ?_; clear hF; intro a hF
  refine Tk 5 rfl hF (.int .i64 (c.port)) (fun Wx hO => x_load (p := .pointer (some ⟨b1, 17, none⟩)) rfl (by kernel_rfl) (run_load1 (by kernel_rfl) ((hO.cell List.mem_cons_self).trans (by kernel_rfl)))) hS ?_; clear hF; intro a hF
  refine Tk 6 rfl hF (.bool (decide (c.port ≥ 0))) (fun Wx _ => by kernel_rfl) hS ?_; clear hF; intro a hF
  refine Tk 7 rfl hF (.bool (decide (c.port ≥ 0))) (fun Wx _ => by kernel_rfl) hS ?_; clear hF; intro a hF
  refine Tk 8 rfl hF (.bool (decide (c.port ≥ 0))) (fun Wx _ => by kernel_rfl) hS ?_; clear hF; intro a hF
  by_cases q2 : c.port ≥ 0
  ·
   replace hF := hF.know (d := 11) (v' := .bool true) (by kernel_rfl) (congrArg Value.bool (decide_eq_true q2))
   refine Tk 9 rfl hF (.pointer (some ⟨b1, 17, none⟩)) (fun Wx _ => by kernel_rfl) hS ?_; clear hF; intro a hF
   refine Tk 10 rfl hF (.int .i64 (c.port)) (fun Wx hO => x_load (p := .pointer (some ⟨b1, 17, none⟩)) rfl (by kernel_rfl) (run_load1 (by kernel_rfl) ((hO.cell List.mem_cons_self).trans (by kernel_rfl)))) hS ?_; clear hF; intro a hF
   refine Tk 11 rfl hF (.pointer (some ⟨b1, 0, none⟩)) (fun Wx _ => by kernel_rfl) hS ?_; clear hF; intro a hF
   refine Tk 12 rfl hF (ipV c.ip) (fun Wx hO => x_load (p := .pointer (some ⟨b1, 0, none⟩)) rfl (by kernel_rfl) (run_loadA (k := 17) (by kernel_rfl) (by kernel_rfl) (hO.blk List.mem_cons_self) (by kernel_rfl) (by kernel_rfl))) hS ?_; clear hF; intro a hF
   refine A_one (i := 13) (listed' := #[true, true, true, true, true, true, true, true, true, true, true, true, true, true, false, false, false, false, false, false, false, false, false, false]) (by kernel_rfl) rfl (by kernel_rfl) ?_
   refine OpK.lc hF (ref03_Width c.ip W2) ?_
   clear hF; rintro _ W3 a ⟨rfl, hk⟩ hF
   replace hO := hO.call0 hk; clear hk
   refine ⟨hO.sub (.cons_cons _ (List.nil_sublist _)), ?_⟩
   have hS := hO.sub (.cons_cons _ (List.nil_sublist _))
   refine Tk 14 rfl hF (.bool (decide (c.port ≤ (widthIp c.ip)))) (fun Wx _ => by kernel_rfl) hS ?_; clear hF; intro a hF
   refine Tk 15 rfl hF (.bool (decide (c.port ≤ (widthIp c.ip)))) (fun Wx _ => by kernel_rfl) hS ?_; clear hF; intro a hF
   refine Tk 16 rfl hF (.bool (decide (c.port ≤ (widthIp c.ip)))) (fun Wx _ => by kernel_rfl) hS ?_; clear hF; intro a hF
   by_cases q3 : c.port ≤ (widthIp c.ip)
   ·
    replace hF := hF.know (d := 19) (v' := .bool true) (by kernel_rfl) (congrArg Value.bool (decide_eq_true q3))
    refine Tk 17 rfl hF (.pointer (some ⟨b1, 0, none⟩)) (fun Wx _ => by kernel_rfl) hS ?_; clear hF; intro a hF
    refine Tk 18 rfl hF (ipV c.ip) (fun Wx hO => x_load (p := .pointer (some ⟨b1, 0, none⟩)) rfl (by kernel_rfl) (run_loadA (k := 17) (by kernel_rfl) (by kernel_rfl) (hO.blk List.mem_cons_self) (by kernel_rfl) (by kernel_rfl))) hS ?_; clear hF; intro a hF
    refine Tk 19 rfl hF (.pointer (some ⟨b1, 17, none⟩)) (fun Wx _ => by kernel_rfl) hS ?_; clear hF; intro a hF
    refine Tk 20 rfl hF (.int .i64 (c.port)) (fun Wx hO => x_load (p := .pointer (some ⟨b1, 17, none⟩)) rfl (by kernel_rfl) (run_load1 (by kernel_rfl) ((hO.cell List.mem_cons_self).trans (by kernel_rfl)))) hS ?_; clear hF; intro a hF
    refine A_one (i := 21) (listed' := #[true, true, true, true, true, true, true, true, true, true, true, true, true, true, true, true, true, true, true, true, true, true, false, false]) (by kernel_rfl) rfl (by kernel_rfl) ?_
    refine OpK.lc hF (ref03_ZeroI c.ip c.port W3 (by (first | omega | (have hw := width_le c.ip; omega))) (by (first | omega | (have hw := width_le c.ip; omega))) (by assumption)) ?_
    clear hF; rintro _ W4 a ⟨rfl, hk⟩ hF
    replace hO := hO.call0 hk; clear hk
    refine ⟨hO.sub (.cons_cons _ (List.nil_sublist _)), ?_⟩
    have hS := hO.sub (.cons_cons _ (List.nil_sublist _))
    refine Tk 22 rfl hF (.bool (decide (cutIp c.ip c.port = c.ip))) (fun Wx _ => by kernel_rfl) hS ?_; clear hF; intro a hF
    refine Tk 23 rfl hF (.bool (decide (cutIp c.ip c.port = c.ip))) (fun Wx _ => by kernel_rfl) hS ?_; clear hF; intro a hF
    refine A_done (by kernel_rfl) ?_
    refine hK2 _ _ ?_
    refine wp_ret ?_
    refine ret1 hF (v := .bool (decide (cutIp c.ip c.port = c.ip))) rfl (resT (by kernel_rfl)) (by refine ⟨?_, hO.nil⟩; unfold rightCd fitsIp; simp [*]) .ret (.inl rfl)
   ·
    replace hF := hF.know (d := 19) (v' := .bool false) (by kernel_rfl) (congrArg Value.bool (decide_eq_false q3))
    refine To 17 rfl hF hS ?_; clear hF; intro a hF
    refine To 18 rfl hF hS ?_; clear hF; intro a hF
    refine To 19 rfl hF hS ?_; clear hF; intro a hF
    refine To 20 rfl hF hS ?_; clear hF; intro a hF
    refine To 21 rfl hF hS ?_; clear hF; intro a hF
    refine Tk 22 rfl hF (.bool false) (fun Wx _ => by kernel_rfl) hS ?_; clear hF; intro a hF
    refine Tk 23 rfl hF (.bool false) (fun Wx _ => by kernel_rfl) hS ?_; clear hF; intro a hF
    refine A_done (by kernel_rfl) ?_
    refine hK2 _ _ ?_
    refine wp_ret ?_
    refine ret1 hF (v := .bool false) rfl (resT (by kernel_rfl)) (by refine ⟨?_, hO.nil⟩; unfold rightCd fitsIp; simp [*]) .ret (.inl rfl)
  ·
   replace hF := hF.know (d := 11) (v' := .bool false) (by kernel_rfl) (congrArg Value.bool (decide_eq_false q2))
   refine To 9 rfl hF hS ?_; clear hF; intro a hF
   refine To 10 rfl hF hS ?_; clear hF; intro a hF
   refine To 11 rfl hF hS ?_; clear hF; intro a hF
   refine To 12 rfl hF hS ?_; clear hF; intro a hF
   refine To 13 rfl hF hS ?_; clear hF; intro a hF
   refine To 14 rfl hF hS ?_; clear hF; intro a hF
   refine Tk 15 rfl hF (.bool false) (fun Wx _ => by kernel_rfl) hS ?_; clear hF; intro a hF
   refine Tk 16 rfl hF (.bool false) (fun Wx _ => by kernel_rfl) hS ?_; clear hF; intro a hF
   refine To 17 rfl hF hS ?_; clear hF; intro a hF
   refine To 18 rfl hF hS ?_; clear hF; intro a hF
   refine To 19 rfl hF hS ?_; clear hF; intro a hF
   refine To 20 rfl hF hS ?_; clear hF; intro a hF
   refine To 21 rfl hF hS ?_; clear hF; intro a hF
   refine Tk 22 rfl hF (.bool false) (fun Wx _ => by kernel_rfl) hS ?_; clear hF; intro a hF
   refine Tk 23 rfl hF (.bool false) (fun Wx _ => by kernel_rfl) hS ?_; clear hF; intro a hF
   refine A_done (by kernel_rfl) ?_
   refine hK2 _ _ ?_
   refine wp_ret ?_
   refine ret1 hF (v := .bool false) rfl (resT (by kernel_rfl)) (by refine ⟨?_, hO.nil⟩; unfold rightCd fitsIp; simp [*]) .ret (.inl rfl)

end Go.Proofs.YthellfigmpjhlaaGreatDoor
