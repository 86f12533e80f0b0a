/- The reference of cidrs: its Parse, walked. -/
import Derived.Test.YthellfigmpjhlaaGreatDoorParseT
import Derived.Test.YthellfigmpjhlaaGreatDoorCdp
import Derived.Test.YthellfigmpjhlaaGreatDoorCidrW
namespace Go.Proofs.YthellfigmpjhlaaGreatDoor
open Go Go.RowKit
set_option linter.unusedVariables false
set_option linter.unusedSimpArgs false
abbrev zPCdpR : Array Value := #[.bool false, .int .u8 0, .int .u8 0, .int .u8 0, .int .u8 0, .int .u8 0, .int .u8 0, .int .u8 0, .int .u8 0, .int .u8 0, .int .u8 0, .int .u8 0, .int .u8 0, .int .u8 0, .int .u8 0, .int .u8 0, .int .u8 0, .int .i64 0]
set_option maxRecDepth 20000 in
theorem ref03_Parse (s : ByteArray) (W : World) (hs : s.size ≤ 1000000) : Ret Tryz.prog 52 #[.string s] W fun v W' => v = numCd (parseCd s) ∧ Own W noX [] W' := by
 have hbt : ∀ (x : ByteArray) (i : Int), bt x i = ((btB x i).toNat : Int) := fun _ _ => rfl
 refine enter Tryz.func52 rfl (n := 102) rfl (by kernel_rfl) (E0 := [(0, .string s)]) (by kernel_rfl) ?_
 intro a hF; have hO := Own.start W noX
 refine wp_seq_k fun K1 hK1 => ?_
 refine wp_region_lit ?_
 refine L_new hF hO (by kernel_rfl) (by kernel_rfl) (vf := fun b => .pointer (some ⟨b, 0, none⟩)) (ob := .cells zPCdpR 68) (by kernel_rfl) (by kernel_rfl) ?_
 clear hF hO; intro b1 W1 a hO hF
 refine Vp hF (.int .i64 0) ?_; clear hF; intro a hF
 refine L_nil ?_
 refine hK1 _ _ ?_
 refine wp_seq_k fun K2 hK2 => ?_
 refine wp_region_lit ?_
 refine Vp hF (.int .i64 0) ?_; clear hF; intro a hF
 refine L_nil ?_
 refine hK2 _ _ ?_
 refine wp_seq_k fun K3 hK3 => ?_
 refine wp_block ?_
 refine loopX (τ := Nat) (fun (i : Nat) a Wx => (i ≤ s.size ∧ NoSl s i) ∧ Fr 102 a [(0, .string s), (2, .pointer (some ⟨b1, 0, none⟩)), (3, .int .i64 0), (4, .int .i64 ((i : Int)))] ∧ Own W noX [.blk b1 (.cells zPCdpR 68 (0, 0))] Wx) (fun (i : Nat) => s.size - i) (0) ⟨⟨by omega, noSl_0 s⟩, ?_, ?_⟩ ?_
 · exact hF.restrict ⟨(by kernel_rfl), (by kernel_rfl), (by kernel_rfl), (congrArg some (by first | rfl | exact congrArg (Value.int _) (hN_0 _).symm)), trivial⟩
 · exact hO.sub (.cons_cons _ (List.nil_sublist _))
 clear hF hO; rintro i a Wl1 ⟨hI, hF, hO⟩ KhK_1 hK_1
 try dsimp only at hI
 refine wp_seq_k fun K4 hK4 => ?_
 refine wp_seq_k fun K5 hK5 => ?_
 refine wp_region_lit ?_
 refine Vp hF (.int .i64 ((i : Int))) ?_; clear hF; intro a hF
 refine Vp hF (.string s) ?_; clear hF; intro a hF
 refine Vp hF (.int .i64 ((s.size : Int))) ?_; clear hF; intro a hF
 refine Vp hF (.bool (decide ((i : Int) < (s.size : Int)))) ?_; clear hF; intro a hF
 refine Vp hF (.bool (decide ((i : Int) < (s.size : Int)))) ?_; clear hF; intro a hF
 by_cases q1 : (i : Int) < (s.size : Int)
 ·
  replace hF := hF.know (d := 14) (v' := .bool true) (by kernel_rfl) (congrArg Value.bool (decide_eq_true q1))
  refine Vp hF (.string s) ?_; clear hF; intro a hF
  refine Vp hF (.int .i64 ((i : Int))) ?_; clear hF; intro a hF
  refine Vr hF (.int .u8 (bt s (i : Int))) (x_idxStr (s := s) (k := .i64) (i := (i : Int)) rfl (by kernel_rfl) (by kernel_rfl) (by kernel_rfl) (by omega) (by omega)) ?_; clear hF; intro a hF
  refine Vp hF (.bool (!((bt s (i : Int)) == 47))) ?_; clear hF; intro a hF
  refine Vp hF (.bool (!((bt s (i : Int)) == 47))) ?_; clear hF; intro a hF
  refine L_nil ?_
  refine hK5 _ _ ?_
  by_cases q2 : bt s (i : Int) = 47
  ·
   replace hF := hF.know (d := 19) (v' := .bool false) (by kernel_rfl) (congrArg Value.bool (neF (not_not_intro q2)))
   refine cond_f hF (by kernel_rfl) (by kernel_rfl) ?_
   refine wp_exit ?_
   refine then_exit ?_
   refine then_exit ?_
   refine inBlock_hit ?_
   refine hK3 _ _ ?_
   refine wp_seq_k fun K6 hK6 => ?_
   refine wp_seq_k fun K7 hK7 => ?_
   refine wp_region_lit ?_
   refine Vp hF (.int .i64 ((i : Int))) ?_; clear hF; intro a hF
   refine Vp hF (.string s) ?_; clear hF; intro a hF
   refine Vp hF (.int .i64 ((s.size : Int))) ?_; clear hF; intro a hF
   refine Vp hF (.bool ((i : Int) == (s.size : Int))) ?_; clear hF; intro a hF
   refine L_nil ?_
   refine hK7 _ _ ?_
   replace hF := hF.know (d := 25) (v' := .bool false) (by kernel_rfl) (congrArg Value.bool (eqF (show ¬ ((i : Int) = (s.size : Int)) from (by omega))))
   refine cond_f hF (by kernel_rfl) (by kernel_rfl) ?_
   refine wp_skip ?_
   refine hK6 _ _ ?_
   refine wp_seq_k fun K8 hK8 => ?_
   refine wp_region_lit ?_
   refine Vp hF (.string s) ?_; clear hF; intro a hF
   refine Vp hF (.int .i64 ((i : Int))) ?_; clear hF; intro a hF
   refine Vr hF (.string (s.extract 0 ((i : Int).toNat))) (x_slStrH (s := s) (k' := .i64) (j := (i : Int)) rfl (by kernel_rfl) (by kernel_rfl) (by kernel_rfl) (by omega) (by omega)) ?_; clear hF; intro a hF
   obtain ⟨y, hy⟩ : ∃ y : Ip, (parseIp (s.extract 0 ((i : Int).toNat))).getD noIp = y := ⟨_, rfl⟩
   obtain ⟨ok, hok⟩ : ∃ ok : Bool, (parseIp (s.extract 0 ((i : Int).toNat))).isSome = ok := ⟨_, rfl⟩
   refine Lc hF ((ref02_Parse (s.extract 0 ((i : Int).toNat)) Wl1 (by exact Nat.le_trans (ext_le _ _ _) hs)).mono fun v W' h => (⟨by rw [h.1, ← hy, ← hok]; rfl, h.2⟩ : v = .tuple #[ipV y, .bool ok] ∧ Own Wl1 noX [] W')) ?_
   clear hF; rintro _ W2 a ⟨rfl, hk⟩ hF
   replace hO := hO.call0 hk; clear hk
   refine Vp hF (.tuple #[ipV y, .bool ok]) ?_; clear hF; intro a hF
   refine Vp hF (ipV y) ?_; clear hF; intro a hF
   refine Vp hF (.bool ok) ?_; clear hF; intro a hF
   refine L_new hF hO (by kernel_rfl) (by kernel_rfl) (vf := fun b => .pointer (some ⟨b, 0, none⟩)) (ob := .cells #[.bool false, .int .u8 0, .int .u8 0, .int .u8 0, .int .u8 0, .int .u8 0, .int .u8 0, .int .u8 0, .int .u8 0, .int .u8 0, .int .u8 0, .int .u8 0, .int .u8 0, .int .u8 0, .int .u8 0, .int .u8 0, .int .u8 0] 33) (by kernel_rfl) (by kernel_rfl) ?_
   clear hF hO; intro b2 W3 a hO hF
   obtain ⟨W4, hst, hO1⟩ := run_storeAt (P := Tryz.prog) (k := 17) (T := 33) (off := 0) (v := ipV y) (cs := #[.bool false, .int .u8 0, .int .u8 0, .int .u8 0, .int .u8 0, .int .u8 0, .int .u8 0, .int .u8 0, .int .u8 0, .int .u8 0, .int .u8 0, .int .u8 0, .int .u8 0, .int .u8 0, .int .u8 0, .int .u8 0, .int .u8 0]) (cs' := (ipL y).toArray) hO (by kernel_rfl) (by kernel_rfl) (by kernel_rfl) (Nat.le_of_ble_eq_true (by kernel_rfl)) (by kernel_rfl) (.head _)
   refine L_skip hF (by kernel_rfl) (by kernel_rfl) (x_store (p := .pointer (some ⟨b2, 0, none⟩)) (v := ipV y) rfl (by kernel_rfl) (by kernel_rfl) hst) (by kernel_rfl) ?_
   clear hst hF; intro a hF; replace hO := hO1; clear hO1
   refine Vp hF (.bool ok) ?_; clear hF; intro a hF
   refine L_nil ?_
   refine hK8 _ _ ?_
   refine wp_seq_k fun K9 hK9 => ?_
   refine wp_region_lit ?_
   refine Vp hF (.string s) ?_; clear hF; intro a hF
   refine Vp hF (.int .i64 ((i : Int))) ?_; clear hF; intro a hF
   refine Vr hF (.int .i64 ((i : Int) + 1)) (x_int (x := IntKind.i64.wrap ((i : Int) + 1)) (i64In (by omega) (by omega)) (by kernel_rfl)) ?_; clear hF; intro a hF
   refine Vr hF (.string (s.extract (((i : Int) + 1).toNat) s.size)) (x_slStrL (s := s) (k := .i64) (i := (i : Int) + 1) rfl (by kernel_rfl) (by kernel_rfl) (by kernel_rfl) (by omega) (by omega)) ?_; clear hF; intro a hF
   refine Vp hF (.string (s.extract (((i : Int) + 1).toNat) s.size)) ?_; clear hF; intro a hF
   refine L_nil ?_
   refine hK9 _ _ ?_
   refine wp_seq_k fun K10 hK10 => ?_
   refine wp_region_lit ?_
   refine Vp hF (.int .i64 0) ?_; clear hF; intro a hF
   refine L_nil ?_
   refine hK10 _ _ ?_
   refine wp_seq_k fun K11 hK11 => ?_
   refine wp_seq_k fun K12 hK12 => ?_
   refine wp_region_lit ?_
   refine Vp hF (.int .i64 0) ?_; clear hF; intro a hF
   refine L_nil ?_
   refine hK12 _ _ ?_
   refine wp_block ?_
   refine loopX (τ := Nat) (fun (k : Nat) a Wx => (k ≤ 3 ∧ k ≤ (s.extract (((i : Int) + 1).toNat) s.size).size ∧ DigH (s.extract (((i : Int) + 1).toNat) s.size) k) ∧ Fr 102 a [(2, .pointer (some ⟨b1, 0, none⟩)), (5, .pointer (some ⟨b2, 0, none⟩)), (6, .bool ok), (7, .string (s.extract (((i : Int) + 1).toNat) s.size)), (8, .int .i64 (hN (s.extract (((i : Int) + 1).toNat) s.size) k)), (9, .int .i64 ((k : Int)))] ∧ Own W noX [.blk b2 (.cells (ipL y).toArray 33 (0, 0)), .blk b1 (.cells zPCdpR 68 (0, 0))] Wx) (fun (k : Nat) => (s.extract (((i : Int) + 1).toNat) s.size).size - k) (0) ⟨⟨by omega, by omega, digH_0 _⟩, ?_, ?_⟩ ?_
   · exact hF.restrict ⟨(by kernel_rfl), (by kernel_rfl), (by kernel_rfl), (by kernel_rfl), (congrArg some (by first | rfl | exact congrArg (Value.int _) (hN_0 _).symm)), (congrArg some (by first | rfl | exact congrArg (Value.int _) (hN_0 _).symm)), trivial⟩
   · exact hO.sub (.cons_cons _ (.cons_cons _ (List.nil_sublist _)))
   clear hF hO; rintro k a Wl2 ⟨hJ, hF, hO⟩ KhK_2 hK_2
   try dsimp only at hJ
   refine wp_seq_k fun K13 hK13 => ?_
   refine wp_seq_k fun K14 hK14 => ?_
   refine wp_region_lit ?_
   refine Vp hF (.int .i64 ((k : Int))) ?_; clear hF; intro a hF
   refine Vp hF (.string (s.extract (((i : Int) + 1).toNat) s.size)) ?_; clear hF; intro a hF
   refine Vp hF (.int .i64 (((s.extract (((i : Int) + 1).toNat) s.size).size : Int))) ?_; clear hF; intro a hF
   refine Vp hF (.bool (decide ((k : Int) < ((s.extract (((i : Int) + 1).toNat) s.size).size : Int)))) ?_; clear hF; intro a hF
   refine L_nil ?_
   refine hK14 _ _ ?_
   by_cases q3 : (k : Int) < ((s.extract (((i : Int) + 1).toNat) s.size).size : Int)
   ·
    replace hF := hF.know (d := 41) (v' := .bool true) (by kernel_rfl) (congrArg Value.bool (decide_eq_true q3))
    refine cond_t hF (by kernel_rfl) (by kernel_rfl) ?_
    refine wp_skip ?_
    refine hK13 _ _ ?_
    refine wp_seq_k fun K15 hK15 => ?_
    refine wp_block ?_
    refine wp_seq_k fun K16 hK16 => ?_
    refine wp_seq_k fun K17 hK17 => ?_
    refine wp_region_lit ?_
    refine Vp hF (.string (s.extract (((i : Int) + 1).toNat) s.size)) ?_; clear hF; intro a hF
    refine Vp hF (.int .i64 ((k : Int))) ?_; clear hF; intro a hF
    refine Vr hF (.int .u8 (bt (s.extract (((i : Int) + 1).toNat) s.size) (k : Int))) (x_idxStr (s := s.extract (((i : Int) + 1).toNat) s.size) (k := .i64) (i := (k : Int)) rfl (by kernel_rfl) (by kernel_rfl) (by kernel_rfl) (by omega) (by omega)) ?_; clear hF; intro a hF
    refine Vp hF (.bool (decide (bt (s.extract (((i : Int) + 1).toNat) s.size) (k : Int) < 48))) ?_; clear hF; intro a hF
    refine Vp hF (.bool (decide (bt (s.extract (((i : Int) + 1).toNat) s.size) (k : Int) < 48))) ?_; clear hF; intro a hF
    by_cases q4 : bt (s.extract (((i : Int) + 1).toNat) s.size) (k : Int) < 48
    ·
     replace hF := hF.know (d := 48) (v' := .bool true) (by kernel_rfl) (congrArg Value.bool (decide_eq_true q4))
     refine Lo hF ?_; clear hF; intro a hF
     refine Lo hF ?_; clear hF; intro a hF
     refine Lo hF ?_; clear hF; intro a hF
     refine Lo hF ?_; clear hF; intro a hF
     refine Vp hF (.bool true) ?_; clear hF; intro a hF
     refine Vp hF (.bool true) ?_; clear hF; intro a hF
     refine Lo hF ?_; clear hF; intro a hF
     refine Lo hF ?_; clear hF; intro a hF
     refine Vp hF (.bool true) ?_; clear hF; intro a hF
     refine L_nil ?_
     refine hK17 _ _ ?_
     refine cond_t hF (by kernel_rfl) (by kernel_rfl) ?_
     refine wp_seq_k fun K18 hK18 => ?_
     refine wp_region_lit ?_
     refine Vp hF (.agg zPCdpR) ?_; clear hF; intro a hF
     obtain ⟨W5, hst, hO1⟩ := run_storeAt (P := Tryz.prog) (k := 18) (T := 68) (off := 0) (v := .agg zPCdpR) (cs := zPCdpR) (cs' := zPCdpR) hO (by kernel_rfl) (by kernel_rfl) (by kernel_rfl) (Nat.le_of_ble_eq_true (by kernel_rfl)) (by kernel_rfl) (.tail (.head _))
     refine L_skip hF (by kernel_rfl) (by kernel_rfl) (x_store (p := .pointer (some ⟨b1, 0, none⟩)) (v := .agg zPCdpR) rfl (by kernel_rfl) (by kernel_rfl) hst) (by kernel_rfl) ?_
     clear hst hF; intro a hF; replace hO := hO1; clear hO1
     refine Vp hF (.int .i64 4) ?_; clear hF; intro a hF
     refine L_nil ?_
     refine hK18 _ _ ?_
     refine wp_ret ?_
     refine then_ret ?_
     refine block_ret ?_
     refine then_ret ?_
     refine then_ret ?_
     refine block_ret ?_
     refine then_ret ?_
     refine ret2 hF (v := .agg zPCdpR) (u := .int .i64 4) rfl (resC (ad := ⟨b1, 0, none⟩) (by kernel_rfl) (run_loadA (k := 18) (by kernel_rfl) (by kernel_rfl) (hO.blk (List.mem_cons_of_mem _ List.mem_cons_self)) (by kernel_rfl) (by kernel_rfl))) (resT (by kernel_rfl)) (by refine ⟨?_, hO.nil⟩; (rw [cd_no (.inr (by rw [(noSl_hit (by omega) hI.2 (u8_eq q2)).2.2]; exact digH_no (i := k) (by omega) (.inl (digB_not (.inl (Int.not_le.2 q4))))))]; rfl)) .ret (.inl rfl)
    ·
     replace hF := hF.know (d := 48) (v' := .bool false) (by kernel_rfl) (congrArg Value.bool (decide_eq_false q4))
     refine Vp hF (.string (s.extract (((i : Int) + 1).toNat) s.size)) ?_; clear hF; intro a hF
     refine Vp hF (.int .i64 ((k : Int))) ?_; clear hF; intro a hF
     refine Vr hF (.int .u8 (bt (s.extract (((i : Int) + 1).toNat) s.size) (k : Int))) (x_idxStr (s := s.extract (((i : Int) + 1).toNat) s.size) (k := .i64) (i := (k : Int)) rfl (by kernel_rfl) (by kernel_rfl) (by kernel_rfl) (by omega) (by omega)) ?_; clear hF; intro a hF
     refine Vp hF (.bool (decide (bt (s.extract (((i : Int) + 1).toNat) s.size) (k : Int) > 57))) ?_; clear hF; intro a hF
     refine Vp hF (.bool (decide (bt (s.extract (((i : Int) + 1).toNat) s.size) (k : Int) > 57))) ?_; clear hF; intro a hF
     refine Vp hF (.bool (decide (bt (s.extract (((i : Int) + 1).toNat) s.size) (k : Int) > 57))) ?_; clear hF; intro a hF
     by_cases q5 : bt (s.extract (((i : Int) + 1).toNat) s.size) (k : Int) > 57
     ·
      replace hF := hF.know (d := 54) (v' := .bool true) (by kernel_rfl) (congrArg Value.bool (decide_eq_true q5))
      refine Lo hF ?_; clear hF; intro a hF
      refine Lo hF ?_; clear hF; intro a hF
      refine Vp hF (.bool true) ?_; clear hF; intro a hF
      refine L_nil ?_
      refine hK17 _ _ ?_
      refine cond_t hF (by kernel_rfl) (by kernel_rfl) ?_
      refine wp_seq_k fun K19 hK19 => ?_
      refine wp_region_lit ?_
      refine Vp hF (.agg zPCdpR) ?_; clear hF; intro a hF
      obtain ⟨W6, hst, hO1⟩ := run_storeAt (P := Tryz.prog) (k := 18) (T := 68) (off := 0) (v := .agg zPCdpR) (cs := zPCdpR) (cs' := zPCdpR) hO (by kernel_rfl) (by kernel_rfl) (by kernel_rfl) (Nat.le_of_ble_eq_true (by kernel_rfl)) (by kernel_rfl) (.tail (.head _))
      refine L_skip hF (by kernel_rfl) (by kernel_rfl) (x_store (p := .pointer (some ⟨b1, 0, none⟩)) (v := .agg zPCdpR) rfl (by kernel_rfl) (by kernel_rfl) hst) (by kernel_rfl) ?_
      clear hst hF; intro a hF; replace hO := hO1; clear hO1
      refine Vp hF (.int .i64 4) ?_; clear hF; intro a hF
      refine L_nil ?_
      refine hK19 _ _ ?_
      refine wp_ret ?_
      refine then_ret ?_
      refine block_ret ?_
      refine then_ret ?_
      refine then_ret ?_
      refine block_ret ?_
      refine then_ret ?_
      refine ret2 hF (v := .agg zPCdpR) (u := .int .i64 4) rfl (resC (ad := ⟨b1, 0, none⟩) (by kernel_rfl) (run_loadA (k := 18) (by kernel_rfl) (by kernel_rfl) (hO.blk (List.mem_cons_of_mem _ List.mem_cons_self)) (by kernel_rfl) (by kernel_rfl))) (resT (by kernel_rfl)) (by refine ⟨?_, hO.nil⟩; (rw [cd_no (.inr (by rw [(noSl_hit (by omega) hI.2 (u8_eq q2)).2.2]; exact digH_no (i := k) (by omega) (.inl (digB_not (.inr (Int.not_le.2 q5))))))]; rfl)) .ret (.inl rfl)
     ·
      replace hF := hF.know (d := 54) (v' := .bool false) (by kernel_rfl) (congrArg Value.bool (decide_eq_false q5))
      refine Vp hF (.int .i64 ((k : Int))) ?_; clear hF; intro a hF
      refine Vp hF (.bool (decide ((k : Int) > 2))) ?_; clear hF; intro a hF
      refine Vp hF (.bool (decide ((k : Int) > 2))) ?_; clear hF; intro a hF
      refine L_nil ?_
      refine hK17 _ _ ?_
      by_cases q6 : (k : Int) > 2
      ·
       replace hF := hF.know (d := 57) (v' := .bool true) (by kernel_rfl) (congrArg Value.bool (decide_eq_true q6))
       refine cond_t hF (by kernel_rfl) (by kernel_rfl) ?_
       refine wp_seq_k fun K20 hK20 => ?_
       refine wp_region_lit ?_
       refine Vp hF (.agg zPCdpR) ?_; clear hF; intro a hF
       obtain ⟨W7, hst, hO1⟩ := run_storeAt (P := Tryz.prog) (k := 18) (T := 68) (off := 0) (v := .agg zPCdpR) (cs := zPCdpR) (cs' := zPCdpR) hO (by kernel_rfl) (by kernel_rfl) (by kernel_rfl) (Nat.le_of_ble_eq_true (by kernel_rfl)) (by kernel_rfl) (.tail (.head _))
       refine L_skip hF (by kernel_rfl) (by kernel_rfl) (x_store (p := .pointer (some ⟨b1, 0, none⟩)) (v := .agg zPCdpR) rfl (by kernel_rfl) (by kernel_rfl) hst) (by kernel_rfl) ?_
       clear hst hF; intro a hF; replace hO := hO1; clear hO1
       refine Vp hF (.int .i64 4) ?_; clear hF; intro a hF
       refine L_nil ?_
       refine hK20 _ _ ?_
       refine wp_ret ?_
       refine then_ret ?_
       refine block_ret ?_
       refine then_ret ?_
       refine then_ret ?_
       refine block_ret ?_
       refine then_ret ?_
       refine ret2 hF (v := .agg zPCdpR) (u := .int .i64 4) rfl (resC (ad := ⟨b1, 0, none⟩) (by kernel_rfl) (run_loadA (k := 18) (by kernel_rfl) (by kernel_rfl) (hO.blk (List.mem_cons_of_mem _ List.mem_cons_self)) (by kernel_rfl) (by kernel_rfl))) (resT (by kernel_rfl)) (by refine ⟨?_, hO.nil⟩; (rw [cd_no (.inr (by rw [(noSl_hit (by omega) hI.2 (u8_eq q2)).2.2]; exact digH_no (i := k) (by omega) (.inr (by omega))))]; rfl)) .ret (.inl rfl)
      ·
       replace hF := hF.know (d := 57) (v' := .bool false) (by kernel_rfl) (congrArg Value.bool (decide_eq_false q6))
       refine cond_f hF (by kernel_rfl) (by kernel_rfl) ?_
       refine wp_skip ?_
       refine hK16 _ _ ?_
       refine wp_region_lit ?_
       refine Vp hF (.int .i64 (hN (s.extract (((i : Int) + 1).toNat) s.size) k)) ?_; clear hF; intro a hF
       refine Vr hF (.int .i64 ((hN (s.extract (((i : Int) + 1).toNat) s.size) k) * 10)) (x_int (x := IntKind.i64.wrap ((hN (s.extract (((i : Int) + 1).toNat) s.size) k) * 10)) (i64In (by (first | omega | (have hnb := hN_bd hJ.1 hJ.2.2; first | omega | (have hwd := width_le y; omega)))) (by (first | omega | (have hnb := hN_bd hJ.1 hJ.2.2; first | omega | (have hwd := width_le y; omega))))) (by kernel_rfl)) ?_; clear hF; intro a hF
       refine Vp hF (.string (s.extract (((i : Int) + 1).toNat) s.size)) ?_; clear hF; intro a hF
       refine Vp hF (.int .i64 ((k : Int))) ?_; clear hF; intro a hF
       refine Vr hF (.int .u8 (bt (s.extract (((i : Int) + 1).toNat) s.size) (k : Int))) (x_idxStr (s := s.extract (((i : Int) + 1).toNat) s.size) (k := .i64) (i := (k : Int)) rfl (by kernel_rfl) (by kernel_rfl) (by kernel_rfl) (by (first | omega | (have hnb := hN_bd hJ.1 hJ.2.2; first | omega | (have hwd := width_le y; omega)))) (by (first | omega | (have hnb := hN_bd hJ.1 hJ.2.2; first | omega | (have hwd := width_le y; omega))))) ?_; clear hF; intro a hF
       refine Vr hF (.int .i64 (bt (s.extract (((i : Int) + 1).toNat) s.size) (k : Int))) (x_int (x := IntKind.i64.wrap (bt (s.extract (((i : Int) + 1).toNat) s.size) (k : Int))) (i64In (by have := bt_bd (s.extract (((i : Int) + 1).toNat) s.size) (k : Int); (first | omega | (have hnb := hN_bd hJ.1 hJ.2.2; first | omega | (have hwd := width_le y; omega)))) (by have := bt_bd (s.extract (((i : Int) + 1).toNat) s.size) (k : Int); (first | omega | (have hnb := hN_bd hJ.1 hJ.2.2; first | omega | (have hwd := width_le y; omega))))) (by kernel_rfl)) ?_; clear hF; intro a hF
       refine Vr hF (.int .i64 ((hN (s.extract (((i : Int) + 1).toNat) s.size) k) * 10 + (bt (s.extract (((i : Int) + 1).toNat) s.size) (k : Int)))) (x_int (x := IntKind.i64.wrap ((hN (s.extract (((i : Int) + 1).toNat) s.size) k) * 10 + (bt (s.extract (((i : Int) + 1).toNat) s.size) (k : Int)))) (i64In (by (first | omega | (have hnb := hN_bd hJ.1 hJ.2.2; first | omega | (have hwd := width_le y; omega)))) (by (first | omega | (have hnb := hN_bd hJ.1 hJ.2.2; first | omega | (have hwd := width_le y; omega))))) (by kernel_rfl)) ?_; clear hF; intro a hF
       refine Vr hF (.int .i64 (((hN (s.extract (((i : Int) + 1).toNat) s.size) k) * 10 + (bt (s.extract (((i : Int) + 1).toNat) s.size) (k : Int))) - 48)) (x_int (x := IntKind.i64.wrap (((hN (s.extract (((i : Int) + 1).toNat) s.size) k) * 10 + (bt (s.extract (((i : Int) + 1).toNat) s.size) (k : Int))) - 48)) (i64In (by (first | omega | (have hnb := hN_bd hJ.1 hJ.2.2; first | omega | (have hwd := width_le y; omega)))) (by (first | omega | (have hnb := hN_bd hJ.1 hJ.2.2; first | omega | (have hwd := width_le y; omega))))) (by kernel_rfl)) ?_; clear hF; intro a hF
       refine Vp hF (.int .i64 (((hN (s.extract (((i : Int) + 1).toNat) s.size) k) * 10 + (bt (s.extract (((i : Int) + 1).toNat) s.size) (k : Int))) - 48)) ?_; clear hF; intro a hF
       refine L_nil ?_
       refine block_normal ?_
       refine hK15 _ _ ?_
       refine wp_region_lit ?_
       refine Vp hF (.int .i64 ((k : Int))) ?_; clear hF; intro a hF
       refine Vr hF (.int .i64 ((k : Int) + 1)) (x_int (x := IntKind.i64.wrap ((k : Int) + 1)) (i64In (by omega) (by omega)) (by kernel_rfl)) ?_; clear hF; intro a hF
       refine Vp hF (.int .i64 ((k : Int) + 1)) ?_; clear hF; intro a hF
       refine L_nil ?_
       refine hK_2 (k + 1) _ _ (by first | omega | (dsimp only; omega)) ⟨⟨by first | omega | (dsimp only; omega), by first | omega | (dsimp only; omega), digH_next (by omega) hJ.2.2 (digB_of (by have h3 := hbt (s.extract ((i : Int) + 1).toNat s.size) (k : Int); omega) (by have h3 := hbt (s.extract ((i : Int) + 1).toNat s.size) (k : Int); omega))⟩, ?_, ?_⟩
       · exact hF.restrict ⟨(by kernel_rfl), (by kernel_rfl), (by kernel_rfl), (by kernel_rfl), (congrArg some (by first | exact congrArg (Value.int _) (by omega) | exact congrArg (Value.int _) (hN_next (by omega) (digB_of (by have h3 := hbt (s.extract ((i : Int) + 1).toNat s.size) (k : Int); omega) (by have h3 := hbt (s.extract ((i : Int) + 1).toNat s.size) (k : Int); omega))))), (congrArg some (by first | exact congrArg (Value.int _) (by omega) | exact congrArg (Value.int _) (hN_next (by omega) (digB_of (by have h3 := hbt (s.extract ((i : Int) + 1).toNat s.size) (k : Int); omega) (by have h3 := hbt (s.extract ((i : Int) + 1).toNat s.size) (k : Int); omega))))), trivial⟩
       · exact hO.sub (.cons_cons _ (.cons_cons _ (List.nil_sublist _)))
   ·
    replace hF := hF.know (d := 41) (v' := .bool false) (by kernel_rfl) (congrArg Value.bool (decide_eq_false q3))
    refine cond_f hF (by kernel_rfl) (by kernel_rfl) ?_
    refine wp_exit ?_
    refine then_exit ?_
    refine then_exit ?_
    refine inBlock_hit ?_
    refine hK11 _ _ ?_
    refine wp_seq_k fun K21 hK21 => ?_
    refine wp_seq_k fun K22 hK22 => ?_
    refine wp_region_lit ?_
    refine Vp hF (.bool ok) ?_; clear hF; intro a hF
    refine Vp hF (.bool (!ok)) ?_; clear hF; intro a hF
    refine Vp hF (.bool (!ok)) ?_; clear hF; intro a hF
    cases q7 : (ok : Bool)
    ·
     replace hF := hF.know (d := 69) (v' := .bool true) (by kernel_rfl) (congrArg Value.bool (notT q7))
     refine Lo hF ?_; clear hF; intro a hF
     refine Lo hF ?_; clear hF; intro a hF
     refine Lo hF ?_; clear hF; intro a hF
     refine Vp hF (.bool true) ?_; clear hF; intro a hF
     refine Vp hF (.bool true) ?_; clear hF; intro a hF
     refine Lo hF ?_; clear hF; intro a hF
     refine Lo hF ?_; clear hF; intro a hF
     refine Vp hF (.bool true) ?_; clear hF; intro a hF
     refine Vp hF (.bool true) ?_; clear hF; intro a hF
     refine Lo hF ?_; clear hF; intro a hF
     refine Lo hF ?_; clear hF; intro a hF
     refine Lo hF ?_; clear hF; intro a hF
     refine Lo hF ?_; clear hF; intro a hF
     refine Lo hF ?_; clear hF; intro a hF
     refine Lo hF ?_; clear hF; intro a hF
     refine Lo hF ?_; clear hF; intro a hF
     refine Lo hF ?_; clear hF; intro a hF
     refine Vp hF (.bool true) ?_; clear hF; intro a hF
     refine L_nil ?_
     refine hK22 _ _ ?_
     refine cond_t hF (by kernel_rfl) (by kernel_rfl) ?_
     refine wp_seq_k fun K23 hK23 => ?_
     refine wp_region_lit ?_
     refine Vp hF (.agg zPCdpR) ?_; clear hF; intro a hF
     obtain ⟨W8, hst, hO1⟩ := run_storeAt (P := Tryz.prog) (k := 18) (T := 68) (off := 0) (v := .agg zPCdpR) (cs := zPCdpR) (cs' := zPCdpR) hO (by kernel_rfl) (by kernel_rfl) (by kernel_rfl) (Nat.le_of_ble_eq_true (by kernel_rfl)) (by kernel_rfl) (.tail (.head _))
     refine L_skip hF (by kernel_rfl) (by kernel_rfl) (x_store (p := .pointer (some ⟨b1, 0, none⟩)) (v := .agg zPCdpR) rfl (by kernel_rfl) (by kernel_rfl) hst) (by kernel_rfl) ?_
     clear hst hF; intro a hF; replace hO := hO1; clear hO1
     refine Vp hF (.int .i64 4) ?_; clear hF; intro a hF
     refine L_nil ?_
     refine hK23 _ _ ?_
     refine wp_ret ?_
     refine then_ret ?_
     refine ret2 hF (v := .agg zPCdpR) (u := .int .i64 4) rfl (resC (ad := ⟨b1, 0, none⟩) (by kernel_rfl) (run_loadA (k := 18) (by kernel_rfl) (by kernel_rfl) (hO.blk (List.mem_cons_of_mem _ List.mem_cons_self)) (by kernel_rfl) (by kernel_rfl))) (resT (by kernel_rfl)) (by refine ⟨?_, hO.nil⟩; (subst hy hok; rw [cd_no (.inl (by rw [(noSl_hit (by omega) hI.2 (u8_eq q2)).2.1]; exact none_of q7))]; rfl)) .ret (.inl rfl)
    ·
     replace hF := hF.know (d := 69) (v' := .bool false) (by kernel_rfl) (congrArg Value.bool (notF q7))
     refine Vp hF (.string (s.extract (((i : Int) + 1).toNat) s.size)) ?_; clear hF; intro a hF
     refine Vp hF (.int .i64 (((s.extract (((i : Int) + 1).toNat) s.size).size : Int))) ?_; clear hF; intro a hF
     refine Vp hF (.bool (((s.extract (((i : Int) + 1).toNat) s.size).size : Int) == 0)) ?_; clear hF; intro a hF
     refine Vp hF (.bool (((s.extract (((i : Int) + 1).toNat) s.size).size : Int) == 0)) ?_; clear hF; intro a hF
     refine Vp hF (.bool (((s.extract (((i : Int) + 1).toNat) s.size).size : Int) == 0)) ?_; clear hF; intro a hF
     by_cases q8 : ((s.extract (((i : Int) + 1).toNat) s.size).size : Int) = 0
     ·
      replace hF := hF.know (d := 74) (v' := .bool true) (by kernel_rfl) (congrArg Value.bool (eqT q8))
      refine Lo hF ?_; clear hF; intro a hF
      refine Lo hF ?_; clear hF; intro a hF
      refine Vp hF (.bool true) ?_; clear hF; intro a hF
      refine Vp hF (.bool true) ?_; clear hF; intro a hF
      refine Lo hF ?_; clear hF; intro a hF
      refine Lo hF ?_; clear hF; intro a hF
      refine Lo hF ?_; clear hF; intro a hF
      refine Lo hF ?_; clear hF; intro a hF
      refine Lo hF ?_; clear hF; intro a hF
      refine Lo hF ?_; clear hF; intro a hF
      refine Lo hF ?_; clear hF; intro a hF
      refine Lo hF ?_; clear hF; intro a hF
      refine Vp hF (.bool true) ?_; clear hF; intro a hF
      refine L_nil ?_
      refine hK22 _ _ ?_
      refine cond_t hF (by kernel_rfl) (by kernel_rfl) ?_
      refine wp_seq_k fun K24 hK24 => ?_
      refine wp_region_lit ?_
      refine Vp hF (.agg zPCdpR) ?_; clear hF; intro a hF
      obtain ⟨W9, hst, hO1⟩ := run_storeAt (P := Tryz.prog) (k := 18) (T := 68) (off := 0) (v := .agg zPCdpR) (cs := zPCdpR) (cs' := zPCdpR) hO (by kernel_rfl) (by kernel_rfl) (by kernel_rfl) (Nat.le_of_ble_eq_true (by kernel_rfl)) (by kernel_rfl) (.tail (.head _))
      refine L_skip hF (by kernel_rfl) (by kernel_rfl) (x_store (p := .pointer (some ⟨b1, 0, none⟩)) (v := .agg zPCdpR) rfl (by kernel_rfl) (by kernel_rfl) hst) (by kernel_rfl) ?_
      clear hst hF; intro a hF; replace hO := hO1; clear hO1
      refine Vp hF (.int .i64 4) ?_; clear hF; intro a hF
      refine L_nil ?_
      refine hK24 _ _ ?_
      refine wp_ret ?_
      refine then_ret ?_
      refine ret2 hF (v := .agg zPCdpR) (u := .int .i64 4) rfl (resC (ad := ⟨b1, 0, none⟩) (by kernel_rfl) (run_loadA (k := 18) (by kernel_rfl) (by kernel_rfl) (hO.blk (List.mem_cons_of_mem _ List.mem_cons_self)) (by kernel_rfl) (by kernel_rfl))) (resT (by kernel_rfl)) (by refine ⟨?_, hO.nil⟩; (rw [cd_no (.inr (by rw [(noSl_hit (by omega) hI.2 (u8_eq q2)).2.2]; exact digH_end0 q8))]; rfl)) .ret (.inl rfl)
     ·
      replace hF := hF.know (d := 74) (v' := .bool false) (by kernel_rfl) (congrArg Value.bool (eqF q8))
      refine Vp hF (.int .i64 (hN (s.extract (((i : Int) + 1).toNat) s.size) k)) ?_; clear hF; intro a hF
      refine Vp hF (.bool (decide (hN (s.extract (((i : Int) + 1).toNat) s.size) k > 128))) ?_; clear hF; intro a hF
      refine Vp hF (.bool (decide (hN (s.extract (((i : Int) + 1).toNat) s.size) k > 128))) ?_; clear hF; intro a hF
      refine Vp hF (.bool (decide (hN (s.extract (((i : Int) + 1).toNat) s.size) k > 128))) ?_; clear hF; intro a hF
      by_cases q9 : hN (s.extract (((i : Int) + 1).toNat) s.size) k > 128
      ·
       replace hF := hF.know (d := 78) (v' := .bool true) (by kernel_rfl) (congrArg Value.bool (decide_eq_true q9))
       refine Lo hF ?_; clear hF; intro a hF
       refine Lo hF ?_; clear hF; intro a hF
       refine Lo hF ?_; clear hF; intro a hF
       refine Lo hF ?_; clear hF; intro a hF
       refine Lo hF ?_; clear hF; intro a hF
       refine Lo hF ?_; clear hF; intro a hF
       refine Lo hF ?_; clear hF; intro a hF
       refine Lo hF ?_; clear hF; intro a hF
       refine Vp hF (.bool true) ?_; clear hF; intro a hF
       refine L_nil ?_
       refine hK22 _ _ ?_
       refine cond_t hF (by kernel_rfl) (by kernel_rfl) ?_
       refine wp_seq_k fun K25 hK25 => ?_
       refine wp_region_lit ?_
       refine Vp hF (.agg zPCdpR) ?_; clear hF; intro a hF
       obtain ⟨W10, hst, hO1⟩ := run_storeAt (P := Tryz.prog) (k := 18) (T := 68) (off := 0) (v := .agg zPCdpR) (cs := zPCdpR) (cs' := zPCdpR) hO (by kernel_rfl) (by kernel_rfl) (by kernel_rfl) (Nat.le_of_ble_eq_true (by kernel_rfl)) (by kernel_rfl) (.tail (.head _))
       refine L_skip hF (by kernel_rfl) (by kernel_rfl) (x_store (p := .pointer (some ⟨b1, 0, none⟩)) (v := .agg zPCdpR) rfl (by kernel_rfl) (by kernel_rfl) hst) (by kernel_rfl) ?_
       clear hst hF; intro a hF; replace hO := hO1; clear hO1
       refine Vp hF (.int .i64 4) ?_; clear hF; intro a hF
       refine L_nil ?_
       refine hK25 _ _ ?_
       refine wp_ret ?_
       refine then_ret ?_
       refine ret2 hF (v := .agg zPCdpR) (u := .int .i64 4) rfl (resC (ad := ⟨b1, 0, none⟩) (by kernel_rfl) (run_loadA (k := 18) (by kernel_rfl) (by kernel_rfl) (hO.blk (List.mem_cons_of_mem _ List.mem_cons_self)) (by kernel_rfl) (by kernel_rfl))) (resT (by kernel_rfl)) (by refine ⟨?_, hO.nil⟩; (rw [cd_no (.inr (by rw [(noSl_hit (by omega) hI.2 (u8_eq q2)).2.2]; exact digH_end1 (i := k) (by omega) q9))]; rfl)) .ret (.inl rfl)
      ·
       replace hF := hF.know (d := 78) (v' := .bool false) (by kernel_rfl) (congrArg Value.bool (decide_eq_false q9))
       refine Vp hF (.string (s.extract (((i : Int) + 1).toNat) s.size)) ?_; clear hF; intro a hF
       refine Vp hF (.int .i64 (((s.extract (((i : Int) + 1).toNat) s.size).size : Int))) ?_; clear hF; intro a hF
       refine Vp hF (.bool (decide (((s.extract (((i : Int) + 1).toNat) s.size).size : Int) > 1))) ?_; clear hF; intro a hF
       refine Vp hF (.bool (decide (((s.extract (((i : Int) + 1).toNat) s.size).size : Int) > 1))) ?_; clear hF; intro a hF
       by_cases q10 : ((s.extract (((i : Int) + 1).toNat) s.size).size : Int) > 1
       ·
        replace hF := hF.know (d := 82) (v' := .bool true) (by kernel_rfl) (congrArg Value.bool (decide_eq_true q10))
        refine Vp hF (.string (s.extract (((i : Int) + 1).toNat) s.size)) ?_; clear hF; intro a hF
        refine Vr hF (.int .u8 (bt (s.extract (((i : Int) + 1).toNat) s.size) 0)) (x_idxStr (s := s.extract (((i : Int) + 1).toNat) s.size) (k := .i64) (i := 0) rfl (by kernel_rfl) (by kernel_rfl) (by kernel_rfl) (by omega) (by omega)) ?_; clear hF; intro a hF
        refine Vp hF (.bool ((bt (s.extract (((i : Int) + 1).toNat) s.size) 0) == 48)) ?_; clear hF; intro a hF
        refine Vp hF (.bool ((bt (s.extract (((i : Int) + 1).toNat) s.size) 0) == 48)) ?_; clear hF; intro a hF
        refine Vp hF (.bool ((bt (s.extract (((i : Int) + 1).toNat) s.size) 0) == 48)) ?_; clear hF; intro a hF
        refine L_nil ?_
        refine hK22 _ _ ?_
        by_cases q11 : bt (s.extract (((i : Int) + 1).toNat) s.size) 0 = 48
        ·
         replace hF := hF.know (d := 87) (v' := .bool true) (by kernel_rfl) (congrArg Value.bool (eqT q11))
         refine cond_t hF (by kernel_rfl) (by kernel_rfl) ?_
         refine wp_seq_k fun K26 hK26 => ?_
         refine wp_region_lit ?_
         refine Vp hF (.agg zPCdpR) ?_; clear hF; intro a hF
         obtain ⟨W11, hst, hO1⟩ := run_storeAt (P := Tryz.prog) (k := 18) (T := 68) (off := 0) (v := .agg zPCdpR) (cs := zPCdpR) (cs' := zPCdpR) hO (by kernel_rfl) (by kernel_rfl) (by kernel_rfl) (Nat.le_of_ble_eq_true (by kernel_rfl)) (by kernel_rfl) (.tail (.head _))
         refine L_skip hF (by kernel_rfl) (by kernel_rfl) (x_store (p := .pointer (some ⟨b1, 0, none⟩)) (v := .agg zPCdpR) rfl (by kernel_rfl) (by kernel_rfl) hst) (by kernel_rfl) ?_
         clear hst hF; intro a hF; replace hO := hO1; clear hO1
         refine Vp hF (.int .i64 4) ?_; clear hF; intro a hF
         refine L_nil ?_
         refine hK26 _ _ ?_
         refine wp_ret ?_
         refine then_ret ?_
         refine ret2 hF (v := .agg zPCdpR) (u := .int .i64 4) rfl (resC (ad := ⟨b1, 0, none⟩) (by kernel_rfl) (run_loadA (k := 18) (by kernel_rfl) (by kernel_rfl) (hO.blk (List.mem_cons_of_mem _ List.mem_cons_self)) (by kernel_rfl) (by kernel_rfl))) (resT (by kernel_rfl)) (by refine ⟨?_, hO.nil⟩; (rw [cd_no (.inr (by rw [(noSl_hit (by omega) hI.2 (u8_eq q2)).2.2]; exact digH_end2 q10 (u8_eq q11)))]; rfl)) .ret (.inl rfl)
        ·
         replace hF := hF.know (d := 87) (v' := .bool false) (by kernel_rfl) (congrArg Value.bool (eqF q11))
         refine cond_f hF (by kernel_rfl) (by kernel_rfl) ?_
         refine wp_skip ?_
         refine hK21 _ _ ?_
         refine wp_seq_k fun K27 hK27 => ?_
         refine wp_seq_k fun K28 hK28 => ?_
         refine wp_region_lit ?_
         refine Vp hF (.int .i64 (hN (s.extract (((i : Int) + 1).toNat) s.size) k)) ?_; clear hF; intro a hF
         refine Vr hF (ipV y) (x_load (p := .pointer (some ⟨b2, 0, none⟩)) rfl (by kernel_rfl) (run_loadA (k := 17) (by kernel_rfl) (by kernel_rfl) (hO.blk List.mem_cons_self) (by kernel_rfl) (by kernel_rfl))) ?_; clear hF; intro a hF
         refine Lc hF (ref03_Width y Wl2) ?_
         clear hF; rintro _ W12 a ⟨rfl, hk⟩ hF
         replace hO := hO.call0 hk; clear hk
         refine Vp hF (.bool (decide (hN (s.extract (((i : Int) + 1).toNat) s.size) k > (widthIp y)))) ?_; clear hF; intro a hF
         refine L_nil ?_
         refine hK28 _ _ ?_
         by_cases q12 : hN (s.extract (((i : Int) + 1).toNat) s.size) k > (widthIp y)
         ·
          replace hF := hF.know (d := 92) (v' := .bool true) (by kernel_rfl) (congrArg Value.bool (decide_eq_true q12))
          refine cond_t hF (by kernel_rfl) (by kernel_rfl) ?_
          refine wp_seq_k fun K29 hK29 => ?_
          refine wp_region_lit ?_
          refine Vp hF (.agg zPCdpR) ?_; clear hF; intro a hF
          obtain ⟨W13, hst, hO1⟩ := run_storeAt (P := Tryz.prog) (k := 18) (T := 68) (off := 0) (v := .agg zPCdpR) (cs := zPCdpR) (cs' := zPCdpR) hO (by kernel_rfl) (by kernel_rfl) (by kernel_rfl) (Nat.le_of_ble_eq_true (by kernel_rfl)) (by kernel_rfl) (.tail (.head _))
          refine L_skip hF (by kernel_rfl) (by kernel_rfl) (x_store (p := .pointer (some ⟨b1, 0, none⟩)) (v := .agg zPCdpR) rfl (by kernel_rfl) (by kernel_rfl) hst) (by kernel_rfl) ?_
          clear hst hF; intro a hF; replace hO := hO1; clear hO1
          refine Vp hF (.int .i64 1) ?_; clear hF; intro a hF
          refine L_nil ?_
          refine hK29 _ _ ?_
          refine wp_ret ?_
          refine then_ret ?_
          refine ret2 hF (v := .agg zPCdpR) (u := .int .i64 1) rfl (resC (ad := ⟨b1, 0, none⟩) (by kernel_rfl) (run_loadA (k := 18) (by kernel_rfl) (by kernel_rfl) (hO.blk (List.mem_cons_of_mem _ List.mem_cons_self)) (by kernel_rfl) (by kernel_rfl))) (resT (by kernel_rfl)) (by refine ⟨?_, hO.nil⟩; (subst hy hok; rw [cd_end (by omega) hI.2 (u8_eq q2) q7 (by omega) hJ (by omega) q9 (fun e => absurd e.2 (u8_ne q11)), if_neg (Int.not_le.2 q12)]; rfl)) .ret (.inl rfl)
         ·
          replace hF := hF.know (d := 92) (v' := .bool false) (by kernel_rfl) (congrArg Value.bool (decide_eq_false q12))
          refine cond_f hF (by kernel_rfl) (by kernel_rfl) ?_
          refine wp_skip ?_
          refine hK27 _ _ ?_
          refine wp_seq_k fun K30 hK30 => ?_
          refine wp_seq_k fun K31 hK31 => ?_
          refine wp_region_lit ?_
          refine Vr hF (ipV y) (x_load (p := .pointer (some ⟨b2, 0, none⟩)) rfl (by kernel_rfl) (run_loadA (k := 17) (by kernel_rfl) (by kernel_rfl) (hO.blk List.mem_cons_self) (by kernel_rfl) (by kernel_rfl))) ?_; clear hF; intro a hF
          refine Vp hF (.int .i64 (hN (s.extract (((i : Int) + 1).toNat) s.size) k)) ?_; clear hF; intro a hF
          refine Lc hF (ref03_ZeroI y (hN (s.extract (((i : Int) + 1).toNat) s.size) k) W12 (by (first | omega | (have hnb := hN_bd hJ.1 hJ.2.2; first | omega | (have hwd := width_le y; omega)))) (by (first | omega | (have hnb := hN_bd hJ.1 hJ.2.2; first | omega | (have hwd := width_le y; omega)))) (hy ▸ getD_right _)) ?_
          clear hF; rintro _ W14 a ⟨rfl, hk⟩ hF
          replace hO := hO.call0 hk; clear hk
          refine Vp hF (.bool (!(decide (cutIp y (hN (s.extract (((i : Int) + 1).toNat) s.size) k) = y)))) ?_; clear hF; intro a hF
          refine L_nil ?_
          refine hK31 _ _ ?_
          by_cases q13 : cutIp y (hN (s.extract (((i : Int) + 1).toNat) s.size) k) = y
          ·
           replace hF := hF.know (d := 97) (v' := .bool false) (by kernel_rfl) (congrArg Value.bool (notF (decide_eq_true (Decidable.of_not_not (not_not_intro q13)))))
           refine cond_f hF (by kernel_rfl) (by kernel_rfl) ?_
           refine wp_skip ?_
           refine hK30 _ _ ?_
           refine wp_seq_k fun K32 hK32 => ?_
           refine wp_region_lit ?_
           refine Vr hF (ipV y) (x_load (p := .pointer (some ⟨b2, 0, none⟩)) rfl (by kernel_rfl) (run_loadA (k := 17) (by kernel_rfl) (by kernel_rfl) (hO.blk List.mem_cons_self) (by kernel_rfl) (by kernel_rfl))) ?_; clear hF; intro a hF
           refine Vp hF (.int .i64 (hN (s.extract (((i : Int) + 1).toNat) s.size) k)) ?_; clear hF; intro a hF
           refine Vp hF (.agg #[.bool y.six, .int .u8 ((y.b0.toNat : Int)), .int .u8 ((y.b1.toNat : Int)), .int .u8 ((y.b2.toNat : Int)), .int .u8 ((y.b3.toNat : Int)), .int .u8 ((y.b4.toNat : Int)), .int .u8 ((y.b5.toNat : Int)), .int .u8 ((y.b6.toNat : Int)), .int .u8 ((y.b7.toNat : Int)), .int .u8 ((y.b8.toNat : Int)), .int .u8 ((y.b9.toNat : Int)), .int .u8 ((y.b10.toNat : Int)), .int .u8 ((y.b11.toNat : Int)), .int .u8 ((y.b12.toNat : Int)), .int .u8 ((y.b13.toNat : Int)), .int .u8 ((y.b14.toNat : Int)), .int .u8 ((y.b15.toNat : Int)), .int .i64 (hN (s.extract (((i : Int) + 1).toNat) s.size) k)]) ?_; clear hF; intro a hF
           obtain ⟨W15, hst, hO1⟩ := run_storeAt (P := Tryz.prog) (k := 18) (T := 68) (off := 0) (v := .agg #[.bool y.six, .int .u8 ((y.b0.toNat : Int)), .int .u8 ((y.b1.toNat : Int)), .int .u8 ((y.b2.toNat : Int)), .int .u8 ((y.b3.toNat : Int)), .int .u8 ((y.b4.toNat : Int)), .int .u8 ((y.b5.toNat : Int)), .int .u8 ((y.b6.toNat : Int)), .int .u8 ((y.b7.toNat : Int)), .int .u8 ((y.b8.toNat : Int)), .int .u8 ((y.b9.toNat : Int)), .int .u8 ((y.b10.toNat : Int)), .int .u8 ((y.b11.toNat : Int)), .int .u8 ((y.b12.toNat : Int)), .int .u8 ((y.b13.toNat : Int)), .int .u8 ((y.b14.toNat : Int)), .int .u8 ((y.b15.toNat : Int)), .int .i64 (hN (s.extract (((i : Int) + 1).toNat) s.size) k)]) (cs := zPCdpR) (cs' := #[.bool y.six, .int .u8 ((y.b0.toNat : Int)), .int .u8 ((y.b1.toNat : Int)), .int .u8 ((y.b2.toNat : Int)), .int .u8 ((y.b3.toNat : Int)), .int .u8 ((y.b4.toNat : Int)), .int .u8 ((y.b5.toNat : Int)), .int .u8 ((y.b6.toNat : Int)), .int .u8 ((y.b7.toNat : Int)), .int .u8 ((y.b8.toNat : Int)), .int .u8 ((y.b9.toNat : Int)), .int .u8 ((y.b10.toNat : Int)), .int .u8 ((y.b11.toNat : Int)), .int .u8 ((y.b12.toNat : Int)), .int .u8 ((y.b13.toNat : Int)), .int .u8 ((y.b14.toNat : Int)), .int .u8 ((y.b15.toNat : Int)), .int .i64 (hN (s.extract (((i : Int) + 1).toNat) s.size) k)]) hO (by kernel_rfl) (by kernel_rfl) (by kernel_rfl) (Nat.le_of_ble_eq_true (by kernel_rfl)) (by kernel_rfl) (.tail (.head _))
           refine L_skip hF (by kernel_rfl) (by kernel_rfl) (x_store (p := .pointer (some ⟨b1, 0, none⟩)) (v := .agg #[.bool y.six, .int .u8 ((y.b0.toNat : Int)), .int .u8 ((y.b1.toNat : Int)), .int .u8 ((y.b2.toNat : Int)), .int .u8 ((y.b3.toNat : Int)), .int .u8 ((y.b4.toNat : Int)), .int .u8 ((y.b5.toNat : Int)), .int .u8 ((y.b6.toNat : Int)), .int .u8 ((y.b7.toNat : Int)), .int .u8 ((y.b8.toNat : Int)), .int .u8 ((y.b9.toNat : Int)), .int .u8 ((y.b10.toNat : Int)), .int .u8 ((y.b11.toNat : Int)), .int .u8 ((y.b12.toNat : Int)), .int .u8 ((y.b13.toNat : Int)), .int .u8 ((y.b14.toNat : Int)), .int .u8 ((y.b15.toNat : Int)), .int .i64 (hN (s.extract (((i : Int) + 1).toNat) s.size) k)]) rfl (by kernel_rfl) (by kernel_rfl) hst) (by kernel_rfl) ?_
           clear hst hF; intro a hF; replace hO := hO1; clear hO1
           refine Vp hF (.int .i64 0) ?_; clear hF; intro a hF
           refine L_nil ?_
           refine hK32 _ _ ?_
           refine wp_ret ?_
           refine ret2 hF (v := .agg #[.bool y.six, .int .u8 ((y.b0.toNat : Int)), .int .u8 ((y.b1.toNat : Int)), .int .u8 ((y.b2.toNat : Int)), .int .u8 ((y.b3.toNat : Int)), .int .u8 ((y.b4.toNat : Int)), .int .u8 ((y.b5.toNat : Int)), .int .u8 ((y.b6.toNat : Int)), .int .u8 ((y.b7.toNat : Int)), .int .u8 ((y.b8.toNat : Int)), .int .u8 ((y.b9.toNat : Int)), .int .u8 ((y.b10.toNat : Int)), .int .u8 ((y.b11.toNat : Int)), .int .u8 ((y.b12.toNat : Int)), .int .u8 ((y.b13.toNat : Int)), .int .u8 ((y.b14.toNat : Int)), .int .u8 ((y.b15.toNat : Int)), .int .i64 (hN (s.extract (((i : Int) + 1).toNat) s.size) k)]) (u := .int .i64 0) rfl (resC (ad := ⟨b1, 0, none⟩) (by kernel_rfl) (run_loadA (k := 18) (by kernel_rfl) (by kernel_rfl) (hO.blk (List.mem_cons_of_mem _ List.mem_cons_self)) (by kernel_rfl) (by kernel_rfl))) (resT (by kernel_rfl)) (by refine ⟨?_, hO.nil⟩; (subst hy hok; rw [cd_end (by omega) hI.2 (u8_eq q2) q7 (by omega) hJ (by omega) q9 (fun e => absurd e.2 (u8_ne q11)), if_pos (Int.not_lt.1 q12), if_pos q13]; rfl)) .ret (.inl rfl)
          ·
           replace hF := hF.know (d := 97) (v' := .bool true) (by kernel_rfl) (congrArg Value.bool (notT (decide_eq_false q13)))
           refine cond_t hF (by kernel_rfl) (by kernel_rfl) ?_
           refine wp_seq_k fun K33 hK33 => ?_
           refine wp_region_lit ?_
           refine Vp hF (.agg zPCdpR) ?_; clear hF; intro a hF
           obtain ⟨W16, hst, hO1⟩ := run_storeAt (P := Tryz.prog) (k := 18) (T := 68) (off := 0) (v := .agg zPCdpR) (cs := zPCdpR) (cs' := zPCdpR) hO (by kernel_rfl) (by kernel_rfl) (by kernel_rfl) (Nat.le_of_ble_eq_true (by kernel_rfl)) (by kernel_rfl) (.tail (.head _))
           refine L_skip hF (by kernel_rfl) (by kernel_rfl) (x_store (p := .pointer (some ⟨b1, 0, none⟩)) (v := .agg zPCdpR) rfl (by kernel_rfl) (by kernel_rfl) hst) (by kernel_rfl) ?_
           clear hst hF; intro a hF; replace hO := hO1; clear hO1
           refine Vp hF (.int .i64 8) ?_; clear hF; intro a hF
           refine L_nil ?_
           refine hK33 _ _ ?_
           refine wp_ret ?_
           refine then_ret ?_
           refine ret2 hF (v := .agg zPCdpR) (u := .int .i64 8) rfl (resC (ad := ⟨b1, 0, none⟩) (by kernel_rfl) (run_loadA (k := 18) (by kernel_rfl) (by kernel_rfl) (hO.blk (List.mem_cons_of_mem _ List.mem_cons_self)) (by kernel_rfl) (by kernel_rfl))) (resT (by kernel_rfl)) (by refine ⟨?_, hO.nil⟩; (subst hy hok; rw [cd_end (by omega) hI.2 (u8_eq q2) q7 (by omega) hJ (by omega) q9 (fun e => absurd e.2 (u8_ne q11)), if_pos (Int.not_lt.1 q12), if_neg q13]; rfl)) .ret (.inl rfl)
       ·
        replace hF := hF.know (d := 82) (v' := .bool false) (by kernel_rfl) (congrArg Value.bool (decide_eq_false q10))
        refine Lo hF ?_; clear hF; intro a hF
        refine Lo hF ?_; clear hF; intro a hF
        refine Lo hF ?_; clear hF; intro a hF
        refine Vp hF (.bool false) ?_; clear hF; intro a hF
        refine Vp hF (.bool false) ?_; clear hF; intro a hF
        refine L_nil ?_
        refine hK22 _ _ ?_
        refine cond_f hF (by kernel_rfl) (by kernel_rfl) ?_
        refine wp_skip ?_
        refine hK21 _ _ ?_
        refine wp_seq_k fun K34 hK34 => ?_
        refine wp_seq_k fun K35 hK35 => ?_
        refine wp_region_lit ?_
        refine Vp hF (.int .i64 (hN (s.extract (((i : Int) + 1).toNat) s.size) k)) ?_; clear hF; intro a hF
        refine Vr hF (ipV y) (x_load (p := .pointer (some ⟨b2, 0, none⟩)) rfl (by kernel_rfl) (run_loadA (k := 17) (by kernel_rfl) (by kernel_rfl) (hO.blk List.mem_cons_self) (by kernel_rfl) (by kernel_rfl))) ?_; clear hF; intro a hF
        refine Lc hF (ref03_Width y Wl2) ?_
        clear hF; rintro _ W17 a ⟨rfl, hk⟩ hF
        replace hO := hO.call0 hk; clear hk
        refine Vp hF (.bool (decide (hN (s.extract (((i : Int) + 1).toNat) s.size) k > (widthIp y)))) ?_; clear hF; intro a hF
        refine L_nil ?_
        refine hK35 _ _ ?_
        by_cases q14 : hN (s.extract (((i : Int) + 1).toNat) s.size) k > (widthIp y)
        ·
         replace hF := hF.know (d := 92) (v' := .bool true) (by kernel_rfl) (congrArg Value.bool (decide_eq_true q14))
         refine cond_t hF (by kernel_rfl) (by kernel_rfl) ?_
         refine wp_seq_k fun K36 hK36 => ?_
         refine wp_region_lit ?_
         refine Vp hF (.agg zPCdpR) ?_; clear hF; intro a hF
         obtain ⟨W18, hst, hO1⟩ := run_storeAt (P := Tryz.prog) (k := 18) (T := 68) (off := 0) (v := .agg zPCdpR) (cs := zPCdpR) (cs' := zPCdpR) hO (by kernel_rfl) (by kernel_rfl) (by kernel_rfl) (Nat.le_of_ble_eq_true (by kernel_rfl)) (by kernel_rfl) (.tail (.head _))
         refine L_skip hF (by kernel_rfl) (by kernel_rfl) (x_store (p := .pointer (some ⟨b1, 0, none⟩)) (v := .agg zPCdpR) rfl (by kernel_rfl) (by kernel_rfl) hst) (by kernel_rfl) ?_
         clear hst hF; intro a hF; replace hO := hO1; clear hO1
         refine Vp hF (.int .i64 1) ?_; clear hF; intro a hF
         refine L_nil ?_
         refine hK36 _ _ ?_
         refine wp_ret ?_
         refine then_ret ?_
         refine ret2 hF (v := .agg zPCdpR) (u := .int .i64 1) rfl (resC (ad := ⟨b1, 0, none⟩) (by kernel_rfl) (run_loadA (k := 18) (by kernel_rfl) (by kernel_rfl) (hO.blk (List.mem_cons_of_mem _ List.mem_cons_self)) (by kernel_rfl) (by kernel_rfl))) (resT (by kernel_rfl)) (by refine ⟨?_, hO.nil⟩; (subst hy hok; rw [cd_end (by omega) hI.2 (u8_eq q2) q7 (by omega) hJ (by omega) q9 (fun e => by have := e.1; omega), if_neg (Int.not_le.2 q14)]; rfl)) .ret (.inl rfl)
        ·
         replace hF := hF.know (d := 92) (v' := .bool false) (by kernel_rfl) (congrArg Value.bool (decide_eq_false q14))
         refine cond_f hF (by kernel_rfl) (by kernel_rfl) ?_
         refine wp_skip ?_
         refine hK34 _ _ ?_
         refine wp_seq_k fun K37 hK37 => ?_
         refine wp_seq_k fun K38 hK38 => ?_
         refine wp_region_lit ?_
         refine Vr hF (ipV y) (x_load (p := .pointer (some ⟨b2, 0, none⟩)) rfl (by kernel_rfl) (run_loadA (k := 17) (by kernel_rfl) (by kernel_rfl) (hO.blk List.mem_cons_self) (by kernel_rfl) (by kernel_rfl))) ?_; clear hF; intro a hF
         refine Vp hF (.int .i64 (hN (s.extract (((i : Int) + 1).toNat) s.size) k)) ?_; clear hF; intro a hF
         refine Lc hF (ref03_ZeroI y (hN (s.extract (((i : Int) + 1).toNat) s.size) k) W17 (by (first | omega | (have hnb := hN_bd hJ.1 hJ.2.2; first | omega | (have hwd := width_le y; omega)))) (by (first | omega | (have hnb := hN_bd hJ.1 hJ.2.2; first | omega | (have hwd := width_le y; omega)))) (hy ▸ getD_right _)) ?_
         clear hF; rintro _ W19 a ⟨rfl, hk⟩ hF
         replace hO := hO.call0 hk; clear hk
         refine Vp hF (.bool (!(decide (cutIp y (hN (s.extract (((i : Int) + 1).toNat) s.size) k) = y)))) ?_; clear hF; intro a hF
         refine L_nil ?_
         refine hK38 _ _ ?_
         by_cases q15 : cutIp y (hN (s.extract (((i : Int) + 1).toNat) s.size) k) = y
         ·
          replace hF := hF.know (d := 97) (v' := .bool false) (by kernel_rfl) (congrArg Value.bool (notF (decide_eq_true (Decidable.of_not_not (not_not_intro q15)))))
          refine cond_f hF (by kernel_rfl) (by kernel_rfl) ?_
          refine wp_skip ?_
          refine hK37 _ _ ?_
          refine wp_seq_k fun K39 hK39 => ?_
          refine wp_region_lit ?_
          refine Vr hF (ipV y) (x_load (p := .pointer (some ⟨b2, 0, none⟩)) rfl (by kernel_rfl) (run_loadA (k := 17) (by kernel_rfl) (by kernel_rfl) (hO.blk List.mem_cons_self) (by kernel_rfl) (by kernel_rfl))) ?_; clear hF; intro a hF
          refine Vp hF (.int .i64 (hN (s.extract (((i : Int) + 1).toNat) s.size) k)) ?_; clear hF; intro a hF
          refine Vp hF (.agg #[.bool y.six, .int .u8 ((y.b0.toNat : Int)), .int .u8 ((y.b1.toNat : Int)), .int .u8 ((y.b2.toNat : Int)), .int .u8 ((y.b3.toNat : Int)), .int .u8 ((y.b4.toNat : Int)), .int .u8 ((y.b5.toNat : Int)), .int .u8 ((y.b6.toNat : Int)), .int .u8 ((y.b7.toNat : Int)), .int .u8 ((y.b8.toNat : Int)), .int .u8 ((y.b9.toNat : Int)), .int .u8 ((y.b10.toNat : Int)), .int .u8 ((y.b11.toNat : Int)), .int .u8 ((y.b12.toNat : Int)), .int .u8 ((y.b13.toNat : Int)), .int .u8 ((y.b14.toNat : Int)), .int .u8 ((y.b15.toNat : Int)), .int .i64 (hN (s.extract (((i : Int) + 1).toNat) s.size) k)]) ?_; clear hF; intro a hF
          obtain ⟨W20, hst, hO1⟩ := run_storeAt (P := Tryz.prog) (k := 18) (T := 68) (off := 0) (v := .agg #[.bool y.six, .int .u8 ((y.b0.toNat : Int)), .int .u8 ((y.b1.toNat : Int)), .int .u8 ((y.b2.toNat : Int)), .int .u8 ((y.b3.toNat : Int)), .int .u8 ((y.b4.toNat : Int)), .int .u8 ((y.b5.toNat : Int)), .int .u8 ((y.b6.toNat : Int)), .int .u8 ((y.b7.toNat : Int)), .int .u8 ((y.b8.toNat : Int)), .int .u8 ((y.b9.toNat : Int)), .int .u8 ((y.b10.toNat : Int)), .int .u8 ((y.b11.toNat : Int)), .int .u8 ((y.b12.toNat : Int)), .int .u8 ((y.b13.toNat : Int)), .int .u8 ((y.b14.toNat : Int)), .int .u8 ((y.b15.toNat : Int)), .int .i64 (hN (s.extract (((i : Int) + 1).toNat) s.size) k)]) (cs := zPCdpR) (cs' := #[.bool y.six, .int .u8 ((y.b0.toNat : Int)), .int .u8 ((y.b1.toNat : Int)), .int .u8 ((y.b2.toNat : Int)), .int .u8 ((y.b3.toNat : Int)), .int .u8 ((y.b4.toNat : Int)), .int .u8 ((y.b5.toNat : Int)), .int .u8 ((y.b6.toNat : Int)), .int .u8 ((y.b7.toNat : Int)), .int .u8 ((y.b8.toNat : Int)), .int .u8 ((y.b9.toNat : Int)), .int .u8 ((y.b10.toNat : Int)), .int .u8 ((y.b11.toNat : Int)), .int .u8 ((y.b12.toNat : Int)), .int .u8 ((y.b13.toNat : Int)), .int .u8 ((y.b14.toNat : Int)), .int .u8 ((y.b15.toNat : Int)), .int .i64 (hN (s.extract (((i : Int) + 1).toNat) s.size) k)]) hO (by kernel_rfl) (by kernel_rfl) (by kernel_rfl) (Nat.le_of_ble_eq_true (by kernel_rfl)) (by kernel_rfl) (.tail (.head _))
          refine L_skip hF (by kernel_rfl) (by kernel_rfl) (x_store (p := .pointer (some ⟨b1, 0, none⟩)) (v := .agg #[.bool y.six, .int .u8 ((y.b0.toNat : Int)), .int .u8 ((y.b1.toNat : Int)), .int .u8 ((y.b2.toNat : Int)), .int .u8 ((y.b3.toNat : Int)), .int .u8 ((y.b4.toNat : Int)), .int .u8 ((y.b5.toNat : Int)), .int .u8 ((y.b6.toNat : Int)), .int .u8 ((y.b7.toNat : Int)), .int .u8 ((y.b8.toNat : Int)), .int .u8 ((y.b9.toNat : Int)), .int .u8 ((y.b10.toNat : Int)), .int .u8 ((y.b11.toNat : Int)), .int .u8 ((y.b12.toNat : Int)), .int .u8 ((y.b13.toNat : Int)), .int .u8 ((y.b14.toNat : Int)), .int .u8 ((y.b15.toNat : Int)), .int .i64 (hN (s.extract (((i : Int) + 1).toNat) s.size) k)]) rfl (by kernel_rfl) (by kernel_rfl) hst) (by kernel_rfl) ?_
          clear hst hF; intro a hF; replace hO := hO1; clear hO1
          refine Vp hF (.int .i64 0) ?_; clear hF; intro a hF
          refine L_nil ?_
          refine hK39 _ _ ?_
          refine wp_ret ?_
          refine ret2 hF (v := .agg #[.bool y.six, .int .u8 ((y.b0.toNat : Int)), .int .u8 ((y.b1.toNat : Int)), .int .u8 ((y.b2.toNat : Int)), .int .u8 ((y.b3.toNat : Int)), .int .u8 ((y.b4.toNat : Int)), .int .u8 ((y.b5.toNat : Int)), .int .u8 ((y.b6.toNat : Int)), .int .u8 ((y.b7.toNat : Int)), .int .u8 ((y.b8.toNat : Int)), .int .u8 ((y.b9.toNat : Int)), .int .u8 ((y.b10.toNat : Int)), .int .u8 ((y.b11.toNat : Int)), .int .u8 ((y.b12.toNat : Int)), .int .u8 ((y.b13.toNat : Int)), .int .u8 ((y.b14.toNat : Int)), .int .u8 ((y.b15.toNat : Int)), .int .i64 (hN (s.extract (((i : Int) + 1).toNat) s.size) k)]) (u := .int .i64 0) rfl (resC (ad := ⟨b1, 0, none⟩) (by kernel_rfl) (run_loadA (k := 18) (by kernel_rfl) (by kernel_rfl) (hO.blk (List.mem_cons_of_mem _ List.mem_cons_self)) (by kernel_rfl) (by kernel_rfl))) (resT (by kernel_rfl)) (by refine ⟨?_, hO.nil⟩; (subst hy hok; rw [cd_end (by omega) hI.2 (u8_eq q2) q7 (by omega) hJ (by omega) q9 (fun e => by have := e.1; omega), if_pos (Int.not_lt.1 q14), if_pos q15]; rfl)) .ret (.inl rfl)
         ·
          replace hF := hF.know (d := 97) (v' := .bool true) (by kernel_rfl) (congrArg Value.bool (notT (decide_eq_false q15)))
          refine cond_t hF (by kernel_rfl) (by kernel_rfl) ?_
          refine wp_seq_k fun K40 hK40 => ?_
          refine wp_region_lit ?_
          refine Vp hF (.agg zPCdpR) ?_; clear hF; intro a hF
          obtain ⟨W21, hst, hO1⟩ := run_storeAt (P := Tryz.prog) (k := 18) (T := 68) (off := 0) (v := .agg zPCdpR) (cs := zPCdpR) (cs' := zPCdpR) hO (by kernel_rfl) (by kernel_rfl) (by kernel_rfl) (Nat.le_of_ble_eq_true (by kernel_rfl)) (by kernel_rfl) (.tail (.head _))
          refine L_skip hF (by kernel_rfl) (by kernel_rfl) (x_store (p := .pointer (some ⟨b1, 0, none⟩)) (v := .agg zPCdpR) rfl (by kernel_rfl) (by kernel_rfl) hst) (by kernel_rfl) ?_
          clear hst hF; intro a hF; replace hO := hO1; clear hO1
          refine Vp hF (.int .i64 8) ?_; clear hF; intro a hF
          refine L_nil ?_
          refine hK40 _ _ ?_
          refine wp_ret ?_
          refine then_ret ?_
          refine ret2 hF (v := .agg zPCdpR) (u := .int .i64 8) rfl (resC (ad := ⟨b1, 0, none⟩) (by kernel_rfl) (run_loadA (k := 18) (by kernel_rfl) (by kernel_rfl) (hO.blk (List.mem_cons_of_mem _ List.mem_cons_self)) (by kernel_rfl) (by kernel_rfl))) (resT (by kernel_rfl)) (by refine ⟨?_, hO.nil⟩; (subst hy hok; rw [cd_end (by omega) hI.2 (u8_eq q2) q7 (by omega) hJ (by omega) q9 (fun e => by have := e.1; omega), if_pos (Int.not_lt.1 q14), if_neg q15]; rfl)) .ret (.inl rfl)
  ·
   replace hF := hF.know (d := 19) (v' := .bool true) (by kernel_rfl) (congrArg Value.bool (neT q2))
   refine cond_t hF (by kernel_rfl) (by kernel_rfl) ?_
   refine wp_skip ?_
   refine hK4 _ _ ?_
   refine wp_block ?_
   refine wp_region_lit ?_
   refine Vp hF (.int .i64 ((i : Int))) ?_; clear hF; intro a hF
   refine Vr hF (.int .i64 ((i : Int) + 1)) (x_int (x := IntKind.i64.wrap ((i : Int) + 1)) (i64In (by omega) (by omega)) (by kernel_rfl)) ?_; clear hF; intro a hF
   refine Vp hF (.int .i64 ((i : Int) + 1)) ?_; clear hF; intro a hF
   refine L_nil ?_
   refine block_normal ?_
   refine hK_1 (i + 1) _ _ (by first | omega | (dsimp only; omega)) ⟨⟨by first | omega | (dsimp only; omega), noSl_next (by omega) hI.2 (u8_ne (by assumption))⟩, ?_, ?_⟩
   · exact hF.restrict ⟨(by kernel_rfl), (by kernel_rfl), (by kernel_rfl), (congrArg some (by first | exact congrArg (Value.int _) (by omega) | exact congrArg (Value.int _) (hN_next (by omega) (digB_of (by have h3 := hbt (s.extract ((i : Int) + 1).toNat s.size) (k : Int); omega) (by have h3 := hbt (s.extract ((i : Int) + 1).toNat s.size) (k : Int); omega))))), trivial⟩
   · exact hO.sub (.cons_cons _ (List.nil_sublist _))
 ·
  replace hF := hF.know (d := 14) (v' := .bool false) (by kernel_rfl) (congrArg Value.bool (decide_eq_false q1))
  refine Lo hF ?_; clear hF; intro a hF
  refine Lo hF ?_; clear hF; intro a hF
  refine Lo hF ?_; clear hF; intro a hF
  refine Lo hF ?_; clear hF; intro a hF
  refine Vp hF (.bool false) ?_; clear hF; intro a hF
  refine L_nil ?_
  refine hK5 _ _ ?_
  refine cond_f hF (by kernel_rfl) (by kernel_rfl) ?_
  refine wp_exit ?_
  refine then_exit ?_
  refine then_exit ?_
  refine inBlock_hit ?_
  refine hK3 _ _ ?_
  refine wp_seq_k fun K41 hK41 => ?_
  refine wp_seq_k fun K42 hK42 => ?_
  refine wp_region_lit ?_
  refine Vp hF (.int .i64 ((i : Int))) ?_; clear hF; intro a hF
  refine Vp hF (.string s) ?_; clear hF; intro a hF
  refine Vp hF (.int .i64 ((s.size : Int))) ?_; clear hF; intro a hF
  refine Vp hF (.bool ((i : Int) == (s.size : Int))) ?_; clear hF; intro a hF
  refine L_nil ?_
  refine hK42 _ _ ?_
  replace hF := hF.know (d := 25) (v' := .bool true) (by kernel_rfl) (congrArg Value.bool (eqT (show (i : Int) = (s.size : Int) from (by omega))))
  refine cond_t hF (by kernel_rfl) (by kernel_rfl) ?_
  refine wp_seq_k fun K43 hK43 => ?_
  refine wp_region_lit ?_
  refine Vp hF (.agg zPCdpR) ?_; clear hF; intro a hF
  obtain ⟨W22, hst, hO1⟩ := run_storeAt (P := Tryz.prog) (k := 18) (T := 68) (off := 0) (v := .agg zPCdpR) (cs := zPCdpR) (cs' := zPCdpR) hO (by kernel_rfl) (by kernel_rfl) (by kernel_rfl) (Nat.le_of_ble_eq_true (by kernel_rfl)) (by kernel_rfl) (.head _)
  refine L_skip hF (by kernel_rfl) (by kernel_rfl) (x_store (p := .pointer (some ⟨b1, 0, none⟩)) (v := .agg zPCdpR) rfl (by kernel_rfl) (by kernel_rfl) hst) (by kernel_rfl) ?_
  clear hst hF; intro a hF; replace hO := hO1; clear hO1
  refine Vp hF (.int .i64 4) ?_; clear hF; intro a hF
  refine L_nil ?_
  refine hK43 _ _ ?_
  refine wp_ret ?_
  refine then_ret ?_
  refine ret2 hF (v := .agg zPCdpR) (u := .int .i64 4) rfl (resC (ad := ⟨b1, 0, none⟩) (by kernel_rfl) (run_loadA (k := 18) (by kernel_rfl) (by kernel_rfl) (hO.blk List.mem_cons_self) (by kernel_rfl) (by kernel_rfl))) (resT (by kernel_rfl)) (by refine ⟨?_, hO.nil⟩; (rw [noSl_end (by omega) hI.2]; rfl)) .ret (.inl rfl)

end Go.Proofs.YthellfigmpjhlaaGreatDoor
