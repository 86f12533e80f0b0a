/- The reference of points: its Parse, walked. -/
import Derived.Test.YthellfigmpjhlaaGreatDoorParseT
import Derived.Test.YthellfigmpjhlaaGreatDoorPts
import Derived.Test.YthellfigmpjhlaaGreatDoorPortsW
namespace Go.Proofs.YthellfigmpjhlaaGreatDoor
open Go Go.RowKit
set_option linter.unusedVariables false
set_option linter.unusedSimpArgs false
abbrev zFPtsR : Array Value := #[.bool false, .int .u8 0, .int .u8 0, .int .u8 0, .int .u8 0, .int .u8 0, .int .u8 0, .int .u8 0, .int .u8 0, .int .u8 0, .int .u8 0, .int .u8 0, .int .u8 0, .int .u8 0, .int .u8 0, .int .u8 0, .int .u8 0]
abbrev zPPtsR : Array Value := #[.bool false, .int .u8 0, .int .u8 0, .int .u8 0, .int .u8 0, .int .u8 0, .int .u8 0, .int .u8 0, .int .u8 0, .int .u8 0, .int .u8 0, .int .u8 0, .int .u8 0, .int .u8 0, .int .u8 0, .int .u8 0, .int .u8 0, .int .i64 0]
set_option maxRecDepth 20000 in
set_option maxHeartbeats 2000000 in
theorem ref04_Parse (s : ByteArray) (W : World) (hs : s.size ≤ 1000000) : Ret Tryz.prog 67 #[.string s] W fun v W' => v = retPtOk (parsePt s) ∧ Own W noX [] W' := by
 have hbt : ∀ (x : ByteArray) (i : Int), bt x i = ((btB x i).toNat : Int) := fun _ _ => rfl
 refine enter Tryz.func67 rfl (n := 117) rfl (by kernel_rfl) (E0 := [(0, .string s)]) (by kernel_rfl) ?_
 intro a hF; have hO := Own.start W noX
 refine wp_seq_k fun K1 hK1 => ?_
 refine wp_region_lit ?_
 refine L_new hF hO (by kernel_rfl) (by kernel_rfl) (vf := fun b => .pointer (some ⟨b, 0, none⟩)) (ob := .cells zPPtsR 45) (by kernel_rfl) (by kernel_rfl) ?_
 clear hF hO; intro b1 W1 a hO hF
 refine Vp hF (.bool false) ?_; clear hF; intro a hF
 refine L_nil ?_
 refine hK1 _ _ ?_
 refine wp_seq_k fun K2 hK2 => ?_
 refine wp_region_lit ?_
 refine Vp hF (.string s) ?_; clear hF; intro a hF
 refine Vp hF (.int .i64 ((s.size : Int))) ?_; clear hF; intro a hF
 refine Vr hF (.int .i64 ((s.size : Int) - 1)) (x_int (x := IntKind.i64.wrap ((s.size : Int) - 1)) (i64In (by omega) (by omega)) (by kernel_rfl)) ?_; clear hF; intro a hF
 refine Vp hF (.int .i64 ((s.size : Int) - 1)) ?_; clear hF; intro a hF
 refine L_nil ?_
 refine hK2 _ _ ?_
 refine wp_seq_k fun K3 hK3 => ?_
 refine wp_region_lit ?_
 refine Vp hF (.int .i64 0) ?_; clear hF; intro a hF
 refine Vp hF (.int .i64 1) ?_; clear hF; intro a hF
 refine L_nil ?_
 refine hK3 _ _ ?_
 refine wp_seq_k fun K4 hK4 => ?_
 refine wp_block ?_
 refine loopX (τ := Nat) (fun (t : Nat) a Wx => (t ≤ 6 ∧ t ≤ s.size ∧ DigT s t) ∧ Fr 117 a [(0, .string s), (2, .pointer (some ⟨b1, 0, none⟩)), (3, .bool false), (4, .int .i64 ((s.size : Int) - 1 - (t : Int))), (5, .int .i64 (nR s t)), (6, .int .i64 (tenP t))] ∧ Own W noX [.blk b1 (.cells zPPtsR 45 (0, 0))] Wx) (fun (t : Nat) => 6 - t) (0) ⟨⟨by omega, by omega, digT_0 s⟩, ?_, ?_⟩ ?_
 · exact hF.restrict ⟨(by kernel_rfl), (by kernel_rfl), (by kernel_rfl), (congrArg some (by exact congrArg (Value.int _) (by omega))), (congrArg some (by exact congrArg (Value.int _) (nR_0 s).symm)), (congrArg some (by rfl)), trivial⟩
 · exact hO.sub (.cons_cons _ (List.nil_sublist _))
 clear hF hO; rintro t a Wl1 ⟨hI, hF, hO⟩ KhK_1 hK_1
 try dsimp only at hI
 refine wp_seq_k fun K5 hK5 => ?_
 refine wp_seq_k fun K6 hK6 => ?_
 refine wp_region_lit ?_
 refine Vp hF (.int .i64 ((s.size : Int) - 1 - (t : Int))) ?_; clear hF; intro a hF
 refine Vp hF (.bool (decide ((s.size : Int) - 1 - (t : Int) ≥ 0))) ?_; clear hF; intro a hF
 refine Vp hF (.bool (decide ((s.size : Int) - 1 - (t : Int) ≥ 0))) ?_; clear hF; intro a hF
 by_cases q1 : (s.size : Int) - 1 - (t : Int) ≥ 0
 ·
  replace hF := hF.know (d := 16) (v' := .bool true) (by kernel_rfl) (congrArg Value.bool (decide_eq_true q1))
  refine Vp hF (.string s) ?_; clear hF; intro a hF
  refine Vp hF (.int .i64 ((s.size : Int) - 1 - (t : Int))) ?_; clear hF; intro a hF
  refine Vr hF (.int .u8 (bt s ((s.size : Int) - 1 - (t : Int)))) (x_idxStr (s := s) (k := .i64) (i := (s.size : Int) - 1 - (t : Int)) rfl (by kernel_rfl) (by kernel_rfl) (by kernel_rfl) (by omega) (by omega)) ?_; clear hF; intro a hF
  refine Vp hF (.bool (decide (bt s ((s.size : Int) - 1 - (t : Int)) ≥ 48))) ?_; clear hF; intro a hF
  refine Vp hF (.bool (decide (bt s ((s.size : Int) - 1 - (t : Int)) ≥ 48))) ?_; clear hF; intro a hF
  refine Vp hF (.bool (decide (bt s ((s.size : Int) - 1 - (t : Int)) ≥ 48))) ?_; clear hF; intro a hF
  by_cases q2 : bt s ((s.size : Int) - 1 - (t : Int)) ≥ 48
  ·
   replace hF := hF.know (d := 22) (v' := .bool true) (by kernel_rfl) (congrArg Value.bool (decide_eq_true q2))
   refine Vp hF (.string s) ?_; clear hF; intro a hF
   refine Vp hF (.int .i64 ((s.size : Int) - 1 - (t : Int))) ?_; clear hF; intro a hF
   refine Vr hF (.int .u8 (bt s ((s.size : Int) - 1 - (t : Int)))) (x_idxStr (s := s) (k := .i64) (i := (s.size : Int) - 1 - (t : Int)) rfl (by kernel_rfl) (by kernel_rfl) (by kernel_rfl) (by omega) (by omega)) ?_; clear hF; intro a hF
   refine Vp hF (.bool (decide (bt s ((s.size : Int) - 1 - (t : Int)) ≤ 57))) ?_; clear hF; intro a hF
   refine Vp hF (.bool (decide (bt s ((s.size : Int) - 1 - (t : Int)) ≤ 57))) ?_; clear hF; intro a hF
   refine Vp hF (.bool (decide (bt s ((s.size : Int) - 1 - (t : Int)) ≤ 57))) ?_; clear hF; intro a hF
   by_cases q3 : bt s ((s.size : Int) - 1 - (t : Int)) ≤ 57
   ·
    replace hF := hF.know (d := 28) (v' := .bool true) (by kernel_rfl) (congrArg Value.bool (decide_eq_true q3))
    refine Vp hF (.string s) ?_; clear hF; intro a hF
    refine Vp hF (.int .i64 ((s.size : Int))) ?_; clear hF; intro a hF
    refine Vp hF (.int .i64 ((s.size : Int) - 1 - (t : Int))) ?_; clear hF; intro a hF
    refine Vr hF (.int .i64 ((s.size : Int) - ((s.size : Int) - 1 - (t : Int)))) (x_int (x := IntKind.i64.wrap ((s.size : Int) - ((s.size : Int) - 1 - (t : Int)))) (i64In (by omega) (by omega)) (by kernel_rfl)) ?_; clear hF; intro a hF
    refine Vp hF (.bool (decide ((s.size : Int) - ((s.size : Int) - 1 - (t : Int)) < 7))) ?_; clear hF; intro a hF
    refine Vp hF (.bool (decide ((s.size : Int) - ((s.size : Int) - 1 - (t : Int)) < 7))) ?_; clear hF; intro a hF
    refine L_nil ?_
    refine hK6 _ _ ?_
    by_cases q4 : (s.size : Int) - ((s.size : Int) - 1 - (t : Int)) < 7
    ·
     replace hF := hF.know (d := 34) (v' := .bool true) (by kernel_rfl) (congrArg Value.bool (decide_eq_true q4))
     refine cond_t hF (by kernel_rfl) (by kernel_rfl) ?_
     refine wp_skip ?_
     refine hK5 _ _ ?_
     refine wp_block ?_
     refine wp_seq_k fun K7 hK7 => ?_
     refine wp_region_lit ?_
     refine Vp hF (.int .i64 (nR s t)) ?_; clear hF; intro a hF
     refine Vp hF (.string s) ?_; clear hF; intro a hF
     refine Vp hF (.int .i64 ((s.size : Int) - 1 - (t : Int))) ?_; clear hF; intro a hF
     refine Vr hF (.int .u8 (bt s ((s.size : Int) - 1 - (t : Int)))) (x_idxStr (s := s) (k := .i64) (i := (s.size : Int) - 1 - (t : Int)) rfl (by kernel_rfl) (by kernel_rfl) (by kernel_rfl) (by omega) (by omega)) ?_; clear hF; intro a hF
     refine Vr hF (.int .u8 ((bt s ((s.size : Int) - 1 - (t : Int))) - 48)) (x_int (x := IntKind.u8.wrap ((bt s ((s.size : Int) - 1 - (t : Int))) - 48)) (u8In (by omega) (by omega)) (by kernel_rfl)) ?_; clear hF; intro a hF
     refine Vr hF (.int .i64 ((bt s ((s.size : Int) - 1 - (t : Int))) - 48)) (x_int (x := IntKind.i64.wrap ((bt s ((s.size : Int) - 1 - (t : Int))) - 48)) (i64In (by omega) (by omega)) (by kernel_rfl)) ?_; clear hF; intro a hF
     refine Vp hF (.int .i64 (tenP t)) ?_; clear hF; intro a hF
     refine Vr hF (.int .i64 (((bt s ((s.size : Int) - 1 - (t : Int))) - 48) * (tenP t))) (x_int (x := IntKind.i64.wrap (((bt s ((s.size : Int) - 1 - (t : Int))) - 48) * (tenP t))) (i64In (by (first | omega | (have hez := ext_le s 0 ((s.size : Int) - 1 - (t : Int)).toNat; omega) | (have hnb := nR_bd hI.1 hI.2.1 hI.2.2; have htb := tenP_bd hI.1; have htm := ten_mul (x := bt s ((s.size : Int) - 1 - (t : Int)) - 48) (t := t) (by omega) (by omega) (by omega); omega))) (by (first | omega | (have hez := ext_le s 0 ((s.size : Int) - 1 - (t : Int)).toNat; omega) | (have hnb := nR_bd hI.1 hI.2.1 hI.2.2; have htb := tenP_bd hI.1; have htm := ten_mul (x := bt s ((s.size : Int) - 1 - (t : Int)) - 48) (t := t) (by omega) (by omega) (by omega); omega)))) (by kernel_rfl)) ?_; clear hF; intro a hF
     refine Vr hF (.int .i64 (nR s t + (((bt s ((s.size : Int) - 1 - (t : Int))) - 48) * (tenP t)))) (x_int (x := IntKind.i64.wrap (nR s t + (((bt s ((s.size : Int) - 1 - (t : Int))) - 48) * (tenP t)))) (i64In (by (first | omega | (have hez := ext_le s 0 ((s.size : Int) - 1 - (t : Int)).toNat; omega) | (have hnb := nR_bd hI.1 hI.2.1 hI.2.2; have htb := tenP_bd hI.1; have htm := ten_mul (x := bt s ((s.size : Int) - 1 - (t : Int)) - 48) (t := t) (by omega) (by omega) (by omega); omega))) (by (first | omega | (have hez := ext_le s 0 ((s.size : Int) - 1 - (t : Int)).toNat; omega) | (have hnb := nR_bd hI.1 hI.2.1 hI.2.2; have htb := tenP_bd hI.1; have htm := ten_mul (x := bt s ((s.size : Int) - 1 - (t : Int)) - 48) (t := t) (by omega) (by omega) (by omega); omega)))) (by kernel_rfl)) ?_; clear hF; intro a hF
     refine Vp hF (.int .i64 (nR s t + (((bt s ((s.size : Int) - 1 - (t : Int))) - 48) * (tenP t)))) ?_; clear hF; intro a hF
     refine L_nil ?_
     refine hK7 _ _ ?_
     refine wp_seq_k fun K8 hK8 => ?_
     refine wp_region_lit ?_
     refine Vp hF (.int .i64 (tenP t)) ?_; clear hF; intro a hF
     refine Vr hF (.int .i64 ((tenP t) * 10)) (x_int (x := IntKind.i64.wrap ((tenP t) * 10)) (i64In (by (first | omega | (have hez := ext_le s 0 ((s.size : Int) - 1 - (t : Int)).toNat; omega) | (have hnb := nR_bd hI.1 hI.2.1 hI.2.2; have htb := tenP_bd hI.1; have htm := ten_mul (x := bt s ((s.size : Int) - 1 - (t : Int)) - 48) (t := t) (by omega) (by omega) (by omega); omega))) (by (first | omega | (have hez := ext_le s 0 ((s.size : Int) - 1 - (t : Int)).toNat; omega) | (have hnb := nR_bd hI.1 hI.2.1 hI.2.2; have htb := tenP_bd hI.1; have htm := ten_mul (x := bt s ((s.size : Int) - 1 - (t : Int)) - 48) (t := t) (by omega) (by omega) (by omega); omega)))) (by kernel_rfl)) ?_; clear hF; intro a hF
     refine Vp hF (.int .i64 ((tenP t) * 10)) ?_; clear hF; intro a hF
     refine L_nil ?_
     refine hK8 _ _ ?_
     refine wp_region_lit ?_
     refine Vp hF (.int .i64 ((s.size : Int) - 1 - (t : Int))) ?_; clear hF; intro a hF
     refine Vr hF (.int .i64 (((s.size : Int) - 1 - (t : Int)) - 1)) (x_int (x := IntKind.i64.wrap (((s.size : Int) - 1 - (t : Int)) - 1)) (i64In (by omega) (by omega)) (by kernel_rfl)) ?_; clear hF; intro a hF
     refine Vp hF (.int .i64 (((s.size : Int) - 1 - (t : Int)) - 1)) ?_; clear hF; intro a hF
     refine L_nil ?_
     refine block_normal ?_
     refine hK_1 (t + 1) _ _ (by first | omega | (dsimp only; omega)) ⟨⟨by first | omega | (dsimp only; omega), by first | omega | (dsimp only; omega), digT_next (by omega) hI.2.2 (digB_of (by assumption) (by assumption))⟩, ?_, ?_⟩
     · exact hF.restrict ⟨(by kernel_rfl), (by kernel_rfl), (by kernel_rfl), (congrArg some (by exact congrArg (Value.int _) (by omega))), (congrArg some (by exact congrArg (Value.int _) (nR_next (by omega) (digB_of (by assumption) (by assumption))))), (congrArg some (by exact congrArg (Value.int _) (tenP_next t))), trivial⟩
     · exact hO.sub (.cons_cons _ (List.nil_sublist _))
    ·
     replace hF := hF.know (d := 34) (v' := .bool false) (by kernel_rfl) (congrArg Value.bool (decide_eq_false q4))
     refine cond_f hF (by kernel_rfl) (by kernel_rfl) ?_
     refine wp_exit ?_
     refine then_exit ?_
     refine then_exit ?_
     refine inBlock_hit ?_
     refine hK4 _ _ ?_
     refine wp_seq_k fun K9 hK9 => ?_
     refine wp_seq_k fun K10 hK10 => ?_
     refine wp_region_lit ?_
     refine Vp hF (.int .i64 ((s.size : Int) - 1 - (t : Int))) ?_; clear hF; intro a hF
     refine Vp hF (.bool (decide ((s.size : Int) - 1 - (t : Int) < 0))) ?_; clear hF; intro a hF
     refine Vp hF (.bool (decide ((s.size : Int) - 1 - (t : Int) < 0))) ?_; clear hF; intro a hF
     replace hF := hF.know (d := 50) (v' := .bool false) (by kernel_rfl) (congrArg Value.bool (decide_eq_false (show ¬ ((s.size : Int) - 1 - (t : Int) < 0) from (by omega))))
     refine Vp hF (.string s) ?_; clear hF; intro a hF
     refine Vp hF (.int .i64 ((s.size : Int) - 1 - (t : Int))) ?_; clear hF; intro a hF
     refine Vr hF (.int .u8 (bt s ((s.size : Int) - 1 - (t : Int)))) (x_idxStr (s := s) (k := .i64) (i := (s.size : Int) - 1 - (t : Int)) rfl (by kernel_rfl) (by kernel_rfl) (by kernel_rfl) (by omega) (by omega)) ?_; clear hF; intro a hF
     refine Vp hF (.bool (!((bt s ((s.size : Int) - 1 - (t : Int))) == 58))) ?_; clear hF; intro a hF
     refine Vp hF (.bool (!((bt s ((s.size : Int) - 1 - (t : Int))) == 58))) ?_; clear hF; intro a hF
     refine Vp hF (.bool (!((bt s ((s.size : Int) - 1 - (t : Int))) == 58))) ?_; clear hF; intro a hF
     replace hF := hF.know (d := 56) (v' := .bool true) (by kernel_rfl) (congrArg Value.bool (neT (show ¬ (bt s ((s.size : Int) - 1 - (t : Int)) = 58) from (by omega))))
     refine Lo hF ?_; clear hF; intro a hF
     refine Lo hF ?_; clear hF; intro a hF
     refine Lo hF ?_; clear hF; intro a hF
     refine Lo hF ?_; clear hF; intro a hF
     refine Lo hF ?_; clear hF; intro a hF
     refine Lo hF ?_; clear hF; intro a hF
     refine Lo hF ?_; clear hF; intro a hF
     refine Lo hF ?_; clear hF; intro a hF
     refine Lo hF ?_; clear hF; intro a hF
     refine Lo hF ?_; clear hF; intro a hF
     refine Lo hF ?_; clear hF; intro a hF
     refine Lo hF ?_; clear hF; intro a hF
     refine Vp hF (.bool true) ?_; clear hF; intro a hF
     refine Vp hF (.bool true) ?_; clear hF; intro a hF
     refine Lo hF ?_; clear hF; intro a hF
     refine Lo hF ?_; clear hF; intro a hF
     refine Lo hF ?_; clear hF; intro a hF
     refine Vp hF (.bool true) ?_; clear hF; intro a hF
     refine L_nil ?_
     refine hK10 _ _ ?_
     refine cond_t hF (by kernel_rfl) (by kernel_rfl) ?_
     refine wp_seq_k fun K11 hK11 => ?_
     refine wp_region_lit ?_
     refine Vp hF (.agg zPPtsR) ?_; clear hF; intro a hF
     obtain ⟨W2, hst, hO1⟩ := run_storeAt (P := Tryz.prog) (k := 18) (T := 45) (off := 0) (v := .agg zPPtsR) (cs := zPPtsR) (cs' := zPPtsR) hO (by kernel_rfl) (by kernel_rfl) (by kernel_rfl) (Nat.le_of_ble_eq_true (by kernel_rfl)) (by kernel_rfl) (.head _)
     refine L_skip hF (by kernel_rfl) (by kernel_rfl) (x_store (p := .pointer (some ⟨b1, 0, none⟩)) (v := .agg zPPtsR) rfl (by kernel_rfl) (by kernel_rfl) hst) (by kernel_rfl) ?_
     clear hst hF; intro a hF; replace hO := hO1; clear hO1
     refine Vp hF (.bool false) ?_; clear hF; intro a hF
     refine L_nil ?_
     refine hK11 _ _ ?_
     refine wp_ret ?_
     refine then_ret ?_
     refine ret2 hF (v := .agg zPPtsR) (u := .bool false) rfl (resC (ad := ⟨b1, 0, none⟩) (by kernel_rfl) (run_loadA (k := 18) (by kernel_rfl) (by kernel_rfl) (hO.blk List.mem_cons_self) (by kernel_rfl) (by kernel_rfl))) (resT (by kernel_rfl)) (by refine ⟨?_, hO.nil⟩; (rw [pt_none_b hI.2.1 hI.2.2 (by omega) (fun e => by have hbb := hbt s ((s.size : Int) - 1 - (t : Int)); rw [e] at hbb; have h58 : ((58 : UInt8).toNat : Int) = 58 := rfl; omega) (.inr (by omega))]; rfl)) .ret (.inl rfl)
   ·
    replace hF := hF.know (d := 28) (v' := .bool false) (by kernel_rfl) (congrArg Value.bool (decide_eq_false q3))
    refine Lo hF ?_; clear hF; intro a hF
    refine Lo hF ?_; clear hF; intro a hF
    refine Lo hF ?_; clear hF; intro a hF
    refine Lo hF ?_; clear hF; intro a hF
    refine Lo hF ?_; clear hF; intro a hF
    refine Vp hF (.bool false) ?_; clear hF; intro a hF
    refine L_nil ?_
    refine hK6 _ _ ?_
    refine cond_f hF (by kernel_rfl) (by kernel_rfl) ?_
    refine wp_exit ?_
    refine then_exit ?_
    refine then_exit ?_
    refine inBlock_hit ?_
    refine hK4 _ _ ?_
    refine wp_seq_k fun K12 hK12 => ?_
    refine wp_seq_k fun K13 hK13 => ?_
    refine wp_region_lit ?_
    refine Vp hF (.int .i64 ((s.size : Int) - 1 - (t : Int))) ?_; clear hF; intro a hF
    refine Vp hF (.bool (decide ((s.size : Int) - 1 - (t : Int) < 0))) ?_; clear hF; intro a hF
    refine Vp hF (.bool (decide ((s.size : Int) - 1 - (t : Int) < 0))) ?_; clear hF; intro a hF
    replace hF := hF.know (d := 50) (v' := .bool false) (by kernel_rfl) (congrArg Value.bool (decide_eq_false (show ¬ ((s.size : Int) - 1 - (t : Int) < 0) from (by omega))))
    refine Vp hF (.string s) ?_; clear hF; intro a hF
    refine Vp hF (.int .i64 ((s.size : Int) - 1 - (t : Int))) ?_; clear hF; intro a hF
    refine Vr hF (.int .u8 (bt s ((s.size : Int) - 1 - (t : Int)))) (x_idxStr (s := s) (k := .i64) (i := (s.size : Int) - 1 - (t : Int)) rfl (by kernel_rfl) (by kernel_rfl) (by kernel_rfl) (by omega) (by omega)) ?_; clear hF; intro a hF
    refine Vp hF (.bool (!((bt s ((s.size : Int) - 1 - (t : Int))) == 58))) ?_; clear hF; intro a hF
    refine Vp hF (.bool (!((bt s ((s.size : Int) - 1 - (t : Int))) == 58))) ?_; clear hF; intro a hF
    refine Vp hF (.bool (!((bt s ((s.size : Int) - 1 - (t : Int))) == 58))) ?_; clear hF; intro a hF
    by_cases q5 : bt s ((s.size : Int) - 1 - (t : Int)) = 58
    ·
     replace hF := hF.know (d := 56) (v' := .bool false) (by kernel_rfl) (congrArg Value.bool (neF (not_not_intro q5)))
     refine Vp hF (.int .i64 ((s.size : Int) - 1 - (t : Int))) ?_; clear hF; intro a hF
     refine Vr hF (.int .i64 ((s.size : Int) - 1 - (t : Int) + 1)) (x_int (x := IntKind.i64.wrap ((s.size : Int) - 1 - (t : Int) + 1)) (i64In (by omega) (by omega)) (by kernel_rfl)) ?_; clear hF; intro a hF
     refine Vp hF (.string s) ?_; clear hF; intro a hF
     refine Vp hF (.int .i64 ((s.size : Int))) ?_; clear hF; intro a hF
     refine Vp hF (.bool (decide ((s.size : Int) - 1 - (t : Int) + 1 < (s.size : Int)))) ?_; clear hF; intro a hF
     refine Vp hF (.bool (decide ((s.size : Int) - 1 - (t : Int) + 1 < (s.size : Int)))) ?_; clear hF; intro a hF
     by_cases q6 : (s.size : Int) - 1 - (t : Int) + 1 < (s.size : Int)
     ·
      replace hF := hF.know (d := 62) (v' := .bool true) (by kernel_rfl) (congrArg Value.bool (decide_eq_true q6))
      refine Vp hF (.string s) ?_; clear hF; intro a hF
      refine Vp hF (.int .i64 ((s.size : Int) - 1 - (t : Int))) ?_; clear hF; intro a hF
      refine Vr hF (.int .i64 ((s.size : Int) - 1 - (t : Int) + 1)) (x_int (x := IntKind.i64.wrap ((s.size : Int) - 1 - (t : Int) + 1)) (i64In (by omega) (by omega)) (by kernel_rfl)) ?_; clear hF; intro a hF
      refine Vr hF (.int .u8 (bt s ((s.size : Int) - 1 - (t : Int) + 1))) (x_idxStr (s := s) (k := .i64) (i := (s.size : Int) - 1 - (t : Int) + 1) rfl (by kernel_rfl) (by kernel_rfl) (by kernel_rfl) (by omega) (by omega)) ?_; clear hF; intro a hF
      refine Vp hF (.bool ((bt s ((s.size : Int) - 1 - (t : Int) + 1)) == 48)) ?_; clear hF; intro a hF
      refine Vp hF (.bool ((bt s ((s.size : Int) - 1 - (t : Int) + 1)) == 48)) ?_; clear hF; intro a hF
      refine Vp hF (.bool ((bt s ((s.size : Int) - 1 - (t : Int) + 1)) == 48)) ?_; clear hF; intro a hF
      refine Vp hF (.bool ((bt s ((s.size : Int) - 1 - (t : Int) + 1)) == 48)) ?_; clear hF; intro a hF
      by_cases q7 : bt s ((s.size : Int) - 1 - (t : Int) + 1) = 48
      ·
       replace hF := hF.know (d := 70) (v' := .bool true) (by kernel_rfl) (congrArg Value.bool (eqT q7))
       refine Lo hF ?_; clear hF; intro a hF
       refine Lo hF ?_; clear hF; intro a hF
       refine Lo hF ?_; clear hF; intro a hF
       refine Vp hF (.bool true) ?_; clear hF; intro a hF
       refine L_nil ?_
       refine hK13 _ _ ?_
       refine cond_t hF (by kernel_rfl) (by kernel_rfl) ?_
       refine wp_seq_k fun K14 hK14 => ?_
       refine wp_region_lit ?_
       refine Vp hF (.agg zPPtsR) ?_; clear hF; intro a hF
       obtain ⟨W3, hst, hO1⟩ := run_storeAt (P := Tryz.prog) (k := 18) (T := 45) (off := 0) (v := .agg zPPtsR) (cs := zPPtsR) (cs' := zPPtsR) hO (by kernel_rfl) (by kernel_rfl) (by kernel_rfl) (Nat.le_of_ble_eq_true (by kernel_rfl)) (by kernel_rfl) (.head _)
       refine L_skip hF (by kernel_rfl) (by kernel_rfl) (x_store (p := .pointer (some ⟨b1, 0, none⟩)) (v := .agg zPPtsR) rfl (by kernel_rfl) (by kernel_rfl) hst) (by kernel_rfl) ?_
       clear hst hF; intro a hF; replace hO := hO1; clear hO1
       refine Vp hF (.bool false) ?_; clear hF; intro a hF
       refine L_nil ?_
       refine hK14 _ _ ?_
       refine wp_ret ?_
       refine then_ret ?_
       refine ret2 hF (v := .agg zPPtsR) (u := .bool false) rfl (resC (ad := ⟨b1, 0, none⟩) (by kernel_rfl) (run_loadA (k := 18) (by kernel_rfl) (by kernel_rfl) (hO.blk List.mem_cons_self) (by kernel_rfl) (by kernel_rfl))) (resT (by kernel_rfl)) (by refine ⟨?_, hO.nil⟩; (rw [pt_zero hI.1 hI.2.1 hI.2.2 (by omega) (u8_eq q5) (by omega) (u8_eq q7)]; rfl)) .ret (.inl rfl)
      ·
       replace hF := hF.know (d := 70) (v' := .bool false) (by kernel_rfl) (congrArg Value.bool (eqF q7))
       refine Vp hF (.int .i64 (nR s t)) ?_; clear hF; intro a hF
       refine Lc hF (ref04_Right (nR s t) Wl1) ?_
       clear hF; rintro _ W4 a ⟨rfl, hk⟩ hF
       replace hO := hO.call0 hk; clear hk
       refine Vp hF (.bool (!(decide (1 ≤ nR s t ∧ nR s t ≤ 65535)))) ?_; clear hF; intro a hF
       refine Vp hF (.bool (!(decide (1 ≤ nR s t ∧ nR s t ≤ 65535)))) ?_; clear hF; intro a hF
       refine L_nil ?_
       refine hK13 _ _ ?_
       by_cases q8 : 1 ≤ nR s t ∧ nR s t ≤ 65535
       ·
        replace hF := hF.know (d := 74) (v' := .bool false) (by kernel_rfl) (congrArg Value.bool (notF (decide_eq_true (Decidable.of_not_not (not_not_intro q8)))))
        refine cond_f hF (by kernel_rfl) (by kernel_rfl) ?_
        refine wp_skip ?_
        refine hK12 _ _ ?_
        refine wp_seq_k fun K15 hK15 => ?_
        refine wp_region_lit ?_
        refine Vp hF (.string s) ?_; clear hF; intro a hF
        refine Vp hF (.int .i64 ((s.size : Int) - 1 - (t : Int))) ?_; clear hF; intro a hF
        refine Vr hF (.string (s.extract 0 (((s.size : Int) - 1 - (t : Int)).toNat))) (x_slStrH (s := s) (k' := .i64) (j := (s.size : Int) - 1 - (t : Int)) rfl (by kernel_rfl) (by kernel_rfl) (by kernel_rfl) (by omega) (by omega)) ?_; clear hF; intro a hF
        refine Vp hF (.string (s.extract 0 (((s.size : Int) - 1 - (t : Int)).toNat))) ?_; clear hF; intro a hF
        refine L_nil ?_
        refine hK15 _ _ ?_
        refine wp_seq_k fun K16 hK16 => ?_
        refine wp_region_lit ?_
        refine Vp hF (.bool false) ?_; clear hF; intro a hF
        refine L_nil ?_
        refine hK16 _ _ ?_
        refine wp_seq_k fun K17 hK17 => ?_
        refine wp_seq_k fun K18 hK18 => ?_
        refine wp_region_lit ?_
        refine Vp hF (.string (s.extract 0 (((s.size : Int) - 1 - (t : Int)).toNat))) ?_; clear hF; intro a hF
        refine Vp hF (.int .i64 (((s.extract 0 (((s.size : Int) - 1 - (t : Int)).toNat)).size : Int))) ?_; clear hF; intro a hF
        refine Vp hF (.bool (decide (((s.extract 0 (((s.size : Int) - 1 - (t : Int)).toNat)).size : Int) > 1))) ?_; clear hF; intro a hF
        refine Vp hF (.bool (decide (((s.extract 0 (((s.size : Int) - 1 - (t : Int)).toNat)).size : Int) > 1))) ?_; clear hF; intro a hF
        by_cases q9 : ((s.extract 0 (((s.size : Int) - 1 - (t : Int)).toNat)).size : Int) > 1
        ·
         replace hF := hF.know (d := 82) (v' := .bool true) (by kernel_rfl) (congrArg Value.bool (decide_eq_true q9))
         refine Vp hF (.string (s.extract 0 (((s.size : Int) - 1 - (t : Int)).toNat))) ?_; clear hF; intro a hF
         refine Vr hF (.int .u8 (bt (s.extract 0 (((s.size : Int) - 1 - (t : Int)).toNat)) 0)) (x_idxStr (s := s.extract 0 (((s.size : Int) - 1 - (t : Int)).toNat)) (k := .i64) (i := 0) rfl (by kernel_rfl) (by kernel_rfl) (by kernel_rfl) (by omega) (by omega)) ?_; clear hF; intro a hF
         refine Vp hF (.bool ((bt (s.extract 0 (((s.size : Int) - 1 - (t : Int)).toNat)) 0) == 91)) ?_; clear hF; intro a hF
         refine Vp hF (.bool ((bt (s.extract 0 (((s.size : Int) - 1 - (t : Int)).toNat)) 0) == 91)) ?_; clear hF; intro a hF
         refine Vp hF (.bool ((bt (s.extract 0 (((s.size : Int) - 1 - (t : Int)).toNat)) 0) == 91)) ?_; clear hF; intro a hF
         by_cases q10 : bt (s.extract 0 (((s.size : Int) - 1 - (t : Int)).toNat)) 0 = 91
         ·
          replace hF := hF.know (d := 87) (v' := .bool true) (by kernel_rfl) (congrArg Value.bool (eqT q10))
          refine Vp hF (.string (s.extract 0 (((s.size : Int) - 1 - (t : Int)).toNat))) ?_; clear hF; intro a hF
          refine Vp hF (.string (s.extract 0 (((s.size : Int) - 1 - (t : Int)).toNat))) ?_; clear hF; intro a hF
          refine Vp hF (.int .i64 (((s.extract 0 (((s.size : Int) - 1 - (t : Int)).toNat)).size : Int))) ?_; clear hF; intro a hF
          refine Vr hF (.int .i64 (((s.extract 0 (((s.size : Int) - 1 - (t : Int)).toNat)).size : Int) - 1)) (x_int (x := IntKind.i64.wrap (((s.extract 0 (((s.size : Int) - 1 - (t : Int)).toNat)).size : Int) - 1)) (i64In (by (first | omega | (have hez := ext_le s 0 ((s.size : Int) - 1 - (t : Int)).toNat; omega) | (have hnb := nR_bd hI.1 hI.2.1 hI.2.2; have htb := tenP_bd hI.1; have htm := ten_mul (x := bt s ((s.size : Int) - 1 - (t : Int)) - 48) (t := t) (by omega) (by omega) (by omega); omega))) (by (first | omega | (have hez := ext_le s 0 ((s.size : Int) - 1 - (t : Int)).toNat; omega) | (have hnb := nR_bd hI.1 hI.2.1 hI.2.2; have htb := tenP_bd hI.1; have htm := ten_mul (x := bt s ((s.size : Int) - 1 - (t : Int)) - 48) (t := t) (by omega) (by omega) (by omega); omega)))) (by kernel_rfl)) ?_; clear hF; intro a hF
          refine Vr hF (.int .u8 (bt (s.extract 0 (((s.size : Int) - 1 - (t : Int)).toNat)) (((s.extract 0 (((s.size : Int) - 1 - (t : Int)).toNat)).size : Int) - 1))) (x_idxStr (s := s.extract 0 (((s.size : Int) - 1 - (t : Int)).toNat)) (k := .i64) (i := ((s.extract 0 (((s.size : Int) - 1 - (t : Int)).toNat)).size : Int) - 1) rfl (by kernel_rfl) (by kernel_rfl) (by kernel_rfl) (by omega) (by omega)) ?_; clear hF; intro a hF
          refine Vp hF (.bool ((bt (s.extract 0 (((s.size : Int) - 1 - (t : Int)).toNat)) (((s.extract 0 (((s.size : Int) - 1 - (t : Int)).toNat)).size : Int) - 1)) == 93)) ?_; clear hF; intro a hF
          refine Vp hF (.bool ((bt (s.extract 0 (((s.size : Int) - 1 - (t : Int)).toNat)) (((s.extract 0 (((s.size : Int) - 1 - (t : Int)).toNat)).size : Int) - 1)) == 93)) ?_; clear hF; intro a hF
          refine L_nil ?_
          refine hK18 _ _ ?_
          by_cases q11 : bt (s.extract 0 (((s.size : Int) - 1 - (t : Int)).toNat)) (((s.extract 0 (((s.size : Int) - 1 - (t : Int)).toNat)).size : Int) - 1) = 93
          ·
           replace hF := hF.know (d := 94) (v' := .bool true) (by kernel_rfl) (congrArg Value.bool (eqT q11))
           refine cond_t hF (by kernel_rfl) (by kernel_rfl) ?_
           refine wp_region_lit ?_
           refine Vp hF (.string (s.extract 0 (((s.size : Int) - 1 - (t : Int)).toNat))) ?_; clear hF; intro a hF
           refine Vp hF (.string (s.extract 0 (((s.size : Int) - 1 - (t : Int)).toNat))) ?_; clear hF; intro a hF
           refine Vp hF (.int .i64 (((s.extract 0 (((s.size : Int) - 1 - (t : Int)).toNat)).size : Int))) ?_; clear hF; intro a hF
           refine Vr hF (.int .i64 (((s.extract 0 (((s.size : Int) - 1 - (t : Int)).toNat)).size : Int) - 1)) (x_int (x := IntKind.i64.wrap (((s.extract 0 (((s.size : Int) - 1 - (t : Int)).toNat)).size : Int) - 1)) (i64In (by (first | omega | (have hez := ext_le s 0 ((s.size : Int) - 1 - (t : Int)).toNat; omega) | (have hnb := nR_bd hI.1 hI.2.1 hI.2.2; have htb := tenP_bd hI.1; have htm := ten_mul (x := bt s ((s.size : Int) - 1 - (t : Int)) - 48) (t := t) (by omega) (by omega) (by omega); omega))) (by (first | omega | (have hez := ext_le s 0 ((s.size : Int) - 1 - (t : Int)).toNat; omega) | (have hnb := nR_bd hI.1 hI.2.1 hI.2.2; have htb := tenP_bd hI.1; have htm := ten_mul (x := bt s ((s.size : Int) - 1 - (t : Int)) - 48) (t := t) (by omega) (by omega) (by omega); omega)))) (by kernel_rfl)) ?_; clear hF; intro a hF
           refine Vr hF (.string ((s.extract 0 (((s.size : Int) - 1 - (t : Int)).toNat)).extract 1 ((((s.extract 0 (((s.size : Int) - 1 - (t : Int)).toNat)).size : Int) - 1).toNat))) (x_slStrLH (s := s.extract 0 (((s.size : Int) - 1 - (t : Int)).toNat)) (k := .i64) (i := 1) (k' := .i64) (j := ((s.extract 0 (((s.size : Int) - 1 - (t : Int)).toNat)).size : Int) - 1) rfl (by kernel_rfl) (by kernel_rfl) (by kernel_rfl) (by kernel_rfl) (by omega) (by omega) (by omega)) ?_; clear hF; intro a hF
           refine Vp hF (.string ((s.extract 0 (((s.size : Int) - 1 - (t : Int)).toNat)).extract 1 ((((s.extract 0 (((s.size : Int) - 1 - (t : Int)).toNat)).size : Int) - 1).toNat))) ?_; clear hF; intro a hF
           refine Vp hF (.bool true) ?_; clear hF; intro a hF
           refine L_nil ?_
           refine hK17 _ _ ?_
           refine wp_seq_k fun K19 hK19 => ?_
           refine wp_region_lit ?_
           refine Vp hF (.string ((s.extract 0 (((s.size : Int) - 1 - (t : Int)).toNat)).extract 1 ((((s.extract 0 (((s.size : Int) - 1 - (t : Int)).toNat)).size : Int) - 1).toNat))) ?_; clear hF; intro a hF
           obtain ⟨y, hy⟩ : ∃ y : Ip, (parseIp ((s.extract 0 (((s.size : Int) - 1 - (t : Int)).toNat)).extract 1 ((((s.extract 0 (((s.size : Int) - 1 - (t : Int)).toNat)).size : Int) - 1).toNat))).getD noIp = y := ⟨_, rfl⟩
           obtain ⟨ok, hok⟩ : ∃ ok : Bool, (parseIp ((s.extract 0 (((s.size : Int) - 1 - (t : Int)).toNat)).extract 1 ((((s.extract 0 (((s.size : Int) - 1 - (t : Int)).toNat)).size : Int) - 1).toNat))).isSome = ok := ⟨_, rfl⟩
           refine Lc hF ((ref02_Parse ((s.extract 0 (((s.size : Int) - 1 - (t : Int)).toNat)).extract 1 ((((s.extract 0 (((s.size : Int) - 1 - (t : Int)).toNat)).size : Int) - 1).toNat)) W4 (by first | exact Nat.le_trans (ext_le _ _ _) (Nat.le_trans (ext_le _ _ _) hs) | exact Nat.le_trans (ext_le _ _ _) hs)).mono fun v W' h => (⟨by rw [h.1, ← hy, ← hok]; rfl, h.2⟩ : v = .tuple #[ipV y, .bool ok] ∧ Own W4 noX [] W')) ?_
           clear hF; rintro _ W5 a ⟨rfl, hk⟩ hF
           replace hO := hO.call0 hk; clear hk
           refine Vp hF (.tuple #[ipV y, .bool ok]) ?_; clear hF; intro a hF
           refine Vp hF (ipV y) ?_; clear hF; intro a hF
           refine Vp hF (.bool ok) ?_; clear hF; intro a hF
           refine L_new hF hO (by kernel_rfl) (by kernel_rfl) (vf := fun b => .pointer (some ⟨b, 0, none⟩)) (ob := .cells zFPtsR 33) (by kernel_rfl) (by kernel_rfl) ?_
           clear hF hO; intro b2 W6 a hO hF
           obtain ⟨W7, hst, hO1⟩ := run_storeAt (P := Tryz.prog) (k := 17) (T := 33) (off := 0) (v := ipV y) (cs := zFPtsR) (cs' := (ipL y).toArray) hO (by kernel_rfl) (by kernel_rfl) (by kernel_rfl) (Nat.le_of_ble_eq_true (by kernel_rfl)) (by kernel_rfl) (.head _)
           refine L_skip hF (by kernel_rfl) (by kernel_rfl) (x_store (p := .pointer (some ⟨b2, 0, none⟩)) (v := ipV y) rfl (by kernel_rfl) (by kernel_rfl) hst) (by kernel_rfl) ?_
           clear hst hF; intro a hF; replace hO := hO1; clear hO1
           refine Vp hF (.bool ok) ?_; clear hF; intro a hF
           refine L_nil ?_
           refine hK19 _ _ ?_
           refine wp_seq_k fun K20 hK20 => ?_
           refine wp_seq_k fun K21 hK21 => ?_
           refine wp_region_lit ?_
           refine Vp hF (.bool ok) ?_; clear hF; intro a hF
           refine Vp hF (.bool (!ok)) ?_; clear hF; intro a hF
           refine Vp hF (.bool (!ok)) ?_; clear hF; intro a hF
           cases q12 : (ok : Bool)
           ·
            replace hF := hF.know (d := 107) (v' := .bool true) (by kernel_rfl) (congrArg Value.bool (notT q12))
            refine Lo hF ?_; clear hF; intro a hF
            refine Lo hF ?_; clear hF; intro a hF
            refine Lo hF ?_; clear hF; intro a hF
            refine Lo hF ?_; clear hF; intro a hF
            refine Vp hF (.bool true) ?_; clear hF; intro a hF
            refine L_nil ?_
            refine hK21 _ _ ?_
            refine cond_t hF (by kernel_rfl) (by kernel_rfl) ?_
            refine wp_seq_k fun K22 hK22 => ?_
            refine wp_region_lit ?_
            refine Vp hF (.agg zPPtsR) ?_; clear hF; intro a hF
            obtain ⟨W8, hst, hO1⟩ := run_storeAt (P := Tryz.prog) (k := 18) (T := 45) (off := 0) (v := .agg zPPtsR) (cs := zPPtsR) (cs' := zPPtsR) hO (by kernel_rfl) (by kernel_rfl) (by kernel_rfl) (Nat.le_of_ble_eq_true (by kernel_rfl)) (by kernel_rfl) (.tail (.head _))
            refine L_skip hF (by kernel_rfl) (by kernel_rfl) (x_store (p := .pointer (some ⟨b1, 0, none⟩)) (v := .agg zPPtsR) rfl (by kernel_rfl) (by kernel_rfl) hst) (by kernel_rfl) ?_
            clear hst hF; intro a hF; replace hO := hO1; clear hO1
            refine Vp hF (.bool false) ?_; clear hF; intro a hF
            refine L_nil ?_
            refine hK22 _ _ ?_
            refine wp_ret ?_
            refine then_ret ?_
            refine ret2 hF (v := .agg zPPtsR) (u := .bool false) rfl (resC (ad := ⟨b1, 0, none⟩) (by kernel_rfl) (run_loadA (k := 18) (by kernel_rfl) (by kernel_rfl) (hO.blk (List.mem_cons_of_mem _ List.mem_cons_self)) (by kernel_rfl) (by kernel_rfl))) (resT (by kernel_rfl)) (by refine ⟨?_, hO.nil⟩; (subst hy hok; rw [fin_no (pt_fin hI (by omega) (u8_eq q5) (fun e => absurd e.2 (u8_ne q7)) q8 (brk_yes ⟨by omega, u8_eq q10, u8_eq q11⟩)) (.inl q12)]; rfl)) .ret (.inl rfl)
           ·
            replace hF := hF.know (d := 107) (v' := .bool false) (by kernel_rfl) (congrArg Value.bool (notF q12))
            refine Vp hF (.pointer (some ⟨b2, 0, none⟩)) ?_; clear hF; intro a hF
            refine Vr hF (.bool y.six) (x_load (p := .pointer (some ⟨b2, 0, none⟩)) rfl (by kernel_rfl) (run_load1 (by kernel_rfl) ((hO.cell List.mem_cons_self).trans (by kernel_rfl)))) ?_; clear hF; intro a hF
            refine Vp hF (.bool true) ?_; clear hF; intro a hF
            refine Vp hF (.bool (!(y.six == true))) ?_; clear hF; intro a hF
            refine Vp hF (.bool (!(y.six == true))) ?_; clear hF; intro a hF
            refine L_nil ?_
            refine hK21 _ _ ?_
            cases q13 : (!(y.six == true) : Bool)
            ·
             replace hF := hF.know (d := 112) (v' := .bool false) (by kernel_rfl) (congrArg Value.bool q13)
             refine cond_f hF (by kernel_rfl) (by kernel_rfl) ?_
             refine wp_skip ?_
             refine hK20 _ _ ?_
             refine wp_seq_k fun K23 hK23 => ?_
             refine wp_region_lit ?_
             refine Vr hF (ipV y) (x_load (p := .pointer (some ⟨b2, 0, none⟩)) rfl (by kernel_rfl) (run_loadA (k := 17) (by kernel_rfl) (by kernel_rfl) (hO.blk List.mem_cons_self) (by kernel_rfl) (by kernel_rfl))) ?_; clear hF; intro a hF
             refine Vp hF (.int .i64 (nR s t)) ?_; clear hF; intro a hF
             refine Vp hF (.agg #[.bool y.six, .int .u8 ((y.b0.toNat : Int)), .int .u8 ((y.b1.toNat : Int)), .int .u8 ((y.b2.toNat : Int)), .int .u8 ((y.b3.toNat : Int)), .int .u8 ((y.b4.toNat : Int)), .int .u8 ((y.b5.toNat : Int)), .int .u8 ((y.b6.toNat : Int)), .int .u8 ((y.b7.toNat : Int)), .int .u8 ((y.b8.toNat : Int)), .int .u8 ((y.b9.toNat : Int)), .int .u8 ((y.b10.toNat : Int)), .int .u8 ((y.b11.toNat : Int)), .int .u8 ((y.b12.toNat : Int)), .int .u8 ((y.b13.toNat : Int)), .int .u8 ((y.b14.toNat : Int)), .int .u8 ((y.b15.toNat : Int)), .int .i64 (nR s t)]) ?_; clear hF; intro a hF
             obtain ⟨W9, hst, hO1⟩ := run_storeAt (P := Tryz.prog) (k := 18) (T := 45) (off := 0) (v := .agg #[.bool y.six, .int .u8 ((y.b0.toNat : Int)), .int .u8 ((y.b1.toNat : Int)), .int .u8 ((y.b2.toNat : Int)), .int .u8 ((y.b3.toNat : Int)), .int .u8 ((y.b4.toNat : Int)), .int .u8 ((y.b5.toNat : Int)), .int .u8 ((y.b6.toNat : Int)), .int .u8 ((y.b7.toNat : Int)), .int .u8 ((y.b8.toNat : Int)), .int .u8 ((y.b9.toNat : Int)), .int .u8 ((y.b10.toNat : Int)), .int .u8 ((y.b11.toNat : Int)), .int .u8 ((y.b12.toNat : Int)), .int .u8 ((y.b13.toNat : Int)), .int .u8 ((y.b14.toNat : Int)), .int .u8 ((y.b15.toNat : Int)), .int .i64 (nR s t)]) (cs := zPPtsR) (cs' := #[.bool y.six, .int .u8 ((y.b0.toNat : Int)), .int .u8 ((y.b1.toNat : Int)), .int .u8 ((y.b2.toNat : Int)), .int .u8 ((y.b3.toNat : Int)), .int .u8 ((y.b4.toNat : Int)), .int .u8 ((y.b5.toNat : Int)), .int .u8 ((y.b6.toNat : Int)), .int .u8 ((y.b7.toNat : Int)), .int .u8 ((y.b8.toNat : Int)), .int .u8 ((y.b9.toNat : Int)), .int .u8 ((y.b10.toNat : Int)), .int .u8 ((y.b11.toNat : Int)), .int .u8 ((y.b12.toNat : Int)), .int .u8 ((y.b13.toNat : Int)), .int .u8 ((y.b14.toNat : Int)), .int .u8 ((y.b15.toNat : Int)), .int .i64 (nR s t)]) hO (by kernel_rfl) (by kernel_rfl) (by kernel_rfl) (Nat.le_of_ble_eq_true (by kernel_rfl)) (by kernel_rfl) (.tail (.head _))
             refine L_skip hF (by kernel_rfl) (by kernel_rfl) (x_store (p := .pointer (some ⟨b1, 0, none⟩)) (v := .agg #[.bool y.six, .int .u8 ((y.b0.toNat : Int)), .int .u8 ((y.b1.toNat : Int)), .int .u8 ((y.b2.toNat : Int)), .int .u8 ((y.b3.toNat : Int)), .int .u8 ((y.b4.toNat : Int)), .int .u8 ((y.b5.toNat : Int)), .int .u8 ((y.b6.toNat : Int)), .int .u8 ((y.b7.toNat : Int)), .int .u8 ((y.b8.toNat : Int)), .int .u8 ((y.b9.toNat : Int)), .int .u8 ((y.b10.toNat : Int)), .int .u8 ((y.b11.toNat : Int)), .int .u8 ((y.b12.toNat : Int)), .int .u8 ((y.b13.toNat : Int)), .int .u8 ((y.b14.toNat : Int)), .int .u8 ((y.b15.toNat : Int)), .int .i64 (nR s t)]) rfl (by kernel_rfl) (by kernel_rfl) hst) (by kernel_rfl) ?_
             clear hst hF; intro a hF; replace hO := hO1; clear hO1
             refine Vp hF (.bool true) ?_; clear hF; intro a hF
             refine L_nil ?_
             refine hK23 _ _ ?_
             refine wp_ret ?_
             refine ret2 hF (v := .agg #[.bool y.six, .int .u8 ((y.b0.toNat : Int)), .int .u8 ((y.b1.toNat : Int)), .int .u8 ((y.b2.toNat : Int)), .int .u8 ((y.b3.toNat : Int)), .int .u8 ((y.b4.toNat : Int)), .int .u8 ((y.b5.toNat : Int)), .int .u8 ((y.b6.toNat : Int)), .int .u8 ((y.b7.toNat : Int)), .int .u8 ((y.b8.toNat : Int)), .int .u8 ((y.b9.toNat : Int)), .int .u8 ((y.b10.toNat : Int)), .int .u8 ((y.b11.toNat : Int)), .int .u8 ((y.b12.toNat : Int)), .int .u8 ((y.b13.toNat : Int)), .int .u8 ((y.b14.toNat : Int)), .int .u8 ((y.b15.toNat : Int)), .int .i64 (nR s t)]) (u := .bool true) rfl (resC (ad := ⟨b1, 0, none⟩) (by kernel_rfl) (run_loadA (k := 18) (by kernel_rfl) (by kernel_rfl) (hO.blk (List.mem_cons_of_mem _ List.mem_cons_self)) (by kernel_rfl) (by kernel_rfl))) (resT (by kernel_rfl)) (by refine ⟨?_, hO.nil⟩; (subst hy hok; rw [fin_yes (pt_fin hI (by omega) (u8_eq q5) (fun e => absurd e.2 (u8_ne q7)) q8 (brk_yes ⟨by omega, u8_eq q10, u8_eq q11⟩)) q12 (bne_f q13)]; rfl)) .ret (.inl rfl)
            ·
             replace hF := hF.know (d := 112) (v' := .bool true) (by kernel_rfl) (congrArg Value.bool q13)
             refine cond_t hF (by kernel_rfl) (by kernel_rfl) ?_
             refine wp_seq_k fun K24 hK24 => ?_
             refine wp_region_lit ?_
             refine Vp hF (.agg zPPtsR) ?_; clear hF; intro a hF
             obtain ⟨W10, hst, hO1⟩ := run_storeAt (P := Tryz.prog) (k := 18) (T := 45) (off := 0) (v := .agg zPPtsR) (cs := zPPtsR) (cs' := zPPtsR) hO (by kernel_rfl) (by kernel_rfl) (by kernel_rfl) (Nat.le_of_ble_eq_true (by kernel_rfl)) (by kernel_rfl) (.tail (.head _))
             refine L_skip hF (by kernel_rfl) (by kernel_rfl) (x_store (p := .pointer (some ⟨b1, 0, none⟩)) (v := .agg zPPtsR) rfl (by kernel_rfl) (by kernel_rfl) hst) (by kernel_rfl) ?_
             clear hst hF; intro a hF; replace hO := hO1; clear hO1
             refine Vp hF (.bool false) ?_; clear hF; intro a hF
             refine L_nil ?_
             refine hK24 _ _ ?_
             refine wp_ret ?_
             refine then_ret ?_
             refine ret2 hF (v := .agg zPPtsR) (u := .bool false) rfl (resC (ad := ⟨b1, 0, none⟩) (by kernel_rfl) (run_loadA (k := 18) (by kernel_rfl) (by kernel_rfl) (hO.blk (List.mem_cons_of_mem _ List.mem_cons_self)) (by kernel_rfl) (by kernel_rfl))) (resT (by kernel_rfl)) (by refine ⟨?_, hO.nil⟩; (subst hy hok; rw [fin_no (pt_fin hI (by omega) (u8_eq q5) (fun e => absurd e.2 (u8_ne q7)) q8 (brk_yes ⟨by omega, u8_eq q10, u8_eq q11⟩)) (.inr (bne_t q13))]; rfl)) .ret (.inl rfl)
          ·
           replace hF := hF.know (d := 94) (v' := .bool false) (by kernel_rfl) (congrArg Value.bool (eqF q11))
           refine cond_f hF (by kernel_rfl) (by kernel_rfl) ?_
           refine wp_skip ?_
           refine hK17 _ _ ?_
           refine wp_seq_k fun K25 hK25 => ?_
           refine wp_region_lit ?_
           refine Vp hF (.string (s.extract 0 (((s.size : Int) - 1 - (t : Int)).toNat))) ?_; clear hF; intro a hF
           obtain ⟨y, hy⟩ : ∃ y : Ip, (parseIp (s.extract 0 (((s.size : Int) - 1 - (t : Int)).toNat))).getD noIp = y := ⟨_, rfl⟩
           obtain ⟨ok, hok⟩ : ∃ ok : Bool, (parseIp (s.extract 0 (((s.size : Int) - 1 - (t : Int)).toNat))).isSome = ok := ⟨_, rfl⟩
           refine Lc hF ((ref02_Parse (s.extract 0 (((s.size : Int) - 1 - (t : Int)).toNat)) W4 (by first | exact Nat.le_trans (ext_le _ _ _) (Nat.le_trans (ext_le _ _ _) hs) | exact Nat.le_trans (ext_le _ _ _) hs)).mono fun v W' h => (⟨by rw [h.1, ← hy, ← hok]; rfl, h.2⟩ : v = .tuple #[ipV y, .bool ok] ∧ Own W4 noX [] W')) ?_
           clear hF; rintro _ W11 a ⟨rfl, hk⟩ hF
           replace hO := hO.call0 hk; clear hk
           refine Vp hF (.tuple #[ipV y, .bool ok]) ?_; clear hF; intro a hF
           refine Vp hF (ipV y) ?_; clear hF; intro a hF
           refine Vp hF (.bool ok) ?_; clear hF; intro a hF
           refine L_new hF hO (by kernel_rfl) (by kernel_rfl) (vf := fun b => .pointer (some ⟨b, 0, none⟩)) (ob := .cells zFPtsR 33) (by kernel_rfl) (by kernel_rfl) ?_
           clear hF hO; intro b3 W12 a hO hF
           obtain ⟨W13, hst, hO1⟩ := run_storeAt (P := Tryz.prog) (k := 17) (T := 33) (off := 0) (v := ipV y) (cs := zFPtsR) (cs' := (ipL y).toArray) hO (by kernel_rfl) (by kernel_rfl) (by kernel_rfl) (Nat.le_of_ble_eq_true (by kernel_rfl)) (by kernel_rfl) (.head _)
           refine L_skip hF (by kernel_rfl) (by kernel_rfl) (x_store (p := .pointer (some ⟨b3, 0, none⟩)) (v := ipV y) rfl (by kernel_rfl) (by kernel_rfl) hst) (by kernel_rfl) ?_
           clear hst hF; intro a hF; replace hO := hO1; clear hO1
           refine Vp hF (.bool ok) ?_; clear hF; intro a hF
           refine L_nil ?_
           refine hK25 _ _ ?_
           refine wp_seq_k fun K26 hK26 => ?_
           refine wp_seq_k fun K27 hK27 => ?_
           refine wp_region_lit ?_
           refine Vp hF (.bool ok) ?_; clear hF; intro a hF
           refine Vp hF (.bool (!ok)) ?_; clear hF; intro a hF
           refine Vp hF (.bool (!ok)) ?_; clear hF; intro a hF
           cases q14 : (ok : Bool)
           ·
            replace hF := hF.know (d := 107) (v' := .bool true) (by kernel_rfl) (congrArg Value.bool (notT q14))
            refine Lo hF ?_; clear hF; intro a hF
            refine Lo hF ?_; clear hF; intro a hF
            refine Lo hF ?_; clear hF; intro a hF
            refine Lo hF ?_; clear hF; intro a hF
            refine Vp hF (.bool true) ?_; clear hF; intro a hF
            refine L_nil ?_
            refine hK27 _ _ ?_
            refine cond_t hF (by kernel_rfl) (by kernel_rfl) ?_
            refine wp_seq_k fun K28 hK28 => ?_
            refine wp_region_lit ?_
            refine Vp hF (.agg zPPtsR) ?_; clear hF; intro a hF
            obtain ⟨W14, hst, hO1⟩ := run_storeAt (P := Tryz.prog) (k := 18) (T := 45) (off := 0) (v := .agg zPPtsR) (cs := zPPtsR) (cs' := zPPtsR) hO (by kernel_rfl) (by kernel_rfl) (by kernel_rfl) (Nat.le_of_ble_eq_true (by kernel_rfl)) (by kernel_rfl) (.tail (.head _))
            refine L_skip hF (by kernel_rfl) (by kernel_rfl) (x_store (p := .pointer (some ⟨b1, 0, none⟩)) (v := .agg zPPtsR) rfl (by kernel_rfl) (by kernel_rfl) hst) (by kernel_rfl) ?_
            clear hst hF; intro a hF; replace hO := hO1; clear hO1
            refine Vp hF (.bool false) ?_; clear hF; intro a hF
            refine L_nil ?_
            refine hK28 _ _ ?_
            refine wp_ret ?_
            refine then_ret ?_
            refine ret2 hF (v := .agg zPPtsR) (u := .bool false) rfl (resC (ad := ⟨b1, 0, none⟩) (by kernel_rfl) (run_loadA (k := 18) (by kernel_rfl) (by kernel_rfl) (hO.blk (List.mem_cons_of_mem _ List.mem_cons_self)) (by kernel_rfl) (by kernel_rfl))) (resT (by kernel_rfl)) (by refine ⟨?_, hO.nil⟩; (subst hy hok; rw [fin_no (pt_fin hI (by omega) (u8_eq q5) (fun e => absurd e.2 (u8_ne q7)) q8 (brk_no (fun hb => absurd hb.2.2 (u8_ne q11)))) (.inl q14)]; rfl)) .ret (.inl rfl)
           ·
            replace hF := hF.know (d := 107) (v' := .bool false) (by kernel_rfl) (congrArg Value.bool (notF q14))
            refine Vp hF (.pointer (some ⟨b3, 0, none⟩)) ?_; clear hF; intro a hF
            refine Vr hF (.bool y.six) (x_load (p := .pointer (some ⟨b3, 0, none⟩)) rfl (by kernel_rfl) (run_load1 (by kernel_rfl) ((hO.cell List.mem_cons_self).trans (by kernel_rfl)))) ?_; clear hF; intro a hF
            refine Vp hF (.bool false) ?_; clear hF; intro a hF
            refine Vp hF (.bool (!(y.six == false))) ?_; clear hF; intro a hF
            refine Vp hF (.bool (!(y.six == false))) ?_; clear hF; intro a hF
            refine L_nil ?_
            refine hK27 _ _ ?_
            cases q15 : (!(y.six == false) : Bool)
            ·
             replace hF := hF.know (d := 112) (v' := .bool false) (by kernel_rfl) (congrArg Value.bool q15)
             refine cond_f hF (by kernel_rfl) (by kernel_rfl) ?_
             refine wp_skip ?_
             refine hK26 _ _ ?_
             refine wp_seq_k fun K29 hK29 => ?_
             refine wp_region_lit ?_
             refine Vr hF (ipV y) (x_load (p := .pointer (some ⟨b3, 0, none⟩)) rfl (by kernel_rfl) (run_loadA (k := 17) (by kernel_rfl) (by kernel_rfl) (hO.blk List.mem_cons_self) (by kernel_rfl) (by kernel_rfl))) ?_; clear hF; intro a hF
             refine Vp hF (.int .i64 (nR s t)) ?_; clear hF; intro a hF
             refine Vp hF (.agg #[.bool y.six, .int .u8 ((y.b0.toNat : Int)), .int .u8 ((y.b1.toNat : Int)), .int .u8 ((y.b2.toNat : Int)), .int .u8 ((y.b3.toNat : Int)), .int .u8 ((y.b4.toNat : Int)), .int .u8 ((y.b5.toNat : Int)), .int .u8 ((y.b6.toNat : Int)), .int .u8 ((y.b7.toNat : Int)), .int .u8 ((y.b8.toNat : Int)), .int .u8 ((y.b9.toNat : Int)), .int .u8 ((y.b10.toNat : Int)), .int .u8 ((y.b11.toNat : Int)), .int .u8 ((y.b12.toNat : Int)), .int .u8 ((y.b13.toNat : Int)), .int .u8 ((y.b14.toNat : Int)), .int .u8 ((y.b15.toNat : Int)), .int .i64 (nR s t)]) ?_; clear hF; intro a hF
             obtain ⟨W15, hst, hO1⟩ := run_storeAt (P := Tryz.prog) (k := 18) (T := 45) (off := 0) (v := .agg #[.bool y.six, .int .u8 ((y.b0.toNat : Int)), .int .u8 ((y.b1.toNat : Int)), .int .u8 ((y.b2.toNat : Int)), .int .u8 ((y.b3.toNat : Int)), .int .u8 ((y.b4.toNat : Int)), .int .u8 ((y.b5.toNat : Int)), .int .u8 ((y.b6.toNat : Int)), .int .u8 ((y.b7.toNat : Int)), .int .u8 ((y.b8.toNat : Int)), .int .u8 ((y.b9.toNat : Int)), .int .u8 ((y.b10.toNat : Int)), .int .u8 ((y.b11.toNat : Int)), .int .u8 ((y.b12.toNat : Int)), .int .u8 ((y.b13.toNat : Int)), .int .u8 ((y.b14.toNat : Int)), .int .u8 ((y.b15.toNat : Int)), .int .i64 (nR s t)]) (cs := zPPtsR) (cs' := #[.bool y.six, .int .u8 ((y.b0.toNat : Int)), .int .u8 ((y.b1.toNat : Int)), .int .u8 ((y.b2.toNat : Int)), .int .u8 ((y.b3.toNat : Int)), .int .u8 ((y.b4.toNat : Int)), .int .u8 ((y.b5.toNat : Int)), .int .u8 ((y.b6.toNat : Int)), .int .u8 ((y.b7.toNat : Int)), .int .u8 ((y.b8.toNat : Int)), .int .u8 ((y.b9.toNat : Int)), .int .u8 ((y.b10.toNat : Int)), .int .u8 ((y.b11.toNat : Int)), .int .u8 ((y.b12.toNat : Int)), .int .u8 ((y.b13.toNat : Int)), .int .u8 ((y.b14.toNat : Int)), .int .u8 ((y.b15.toNat : Int)), .int .i64 (nR s t)]) hO (by kernel_rfl) (by kernel_rfl) (by kernel_rfl) (Nat.le_of_ble_eq_true (by kernel_rfl)) (by kernel_rfl) (.tail (.head _))
             refine L_skip hF (by kernel_rfl) (by kernel_rfl) (x_store (p := .pointer (some ⟨b1, 0, none⟩)) (v := .agg #[.bool y.six, .int .u8 ((y.b0.toNat : Int)), .int .u8 ((y.b1.toNat : Int)), .int .u8 ((y.b2.toNat : Int)), .int .u8 ((y.b3.toNat : Int)), .int .u8 ((y.b4.toNat : Int)), .int .u8 ((y.b5.toNat : Int)), .int .u8 ((y.b6.toNat : Int)), .int .u8 ((y.b7.toNat : Int)), .int .u8 ((y.b8.toNat : Int)), .int .u8 ((y.b9.toNat : Int)), .int .u8 ((y.b10.toNat : Int)), .int .u8 ((y.b11.toNat : Int)), .int .u8 ((y.b12.toNat : Int)), .int .u8 ((y.b13.toNat : Int)), .int .u8 ((y.b14.toNat : Int)), .int .u8 ((y.b15.toNat : Int)), .int .i64 (nR s t)]) rfl (by kernel_rfl) (by kernel_rfl) hst) (by kernel_rfl) ?_
             clear hst hF; intro a hF; replace hO := hO1; clear hO1
             refine Vp hF (.bool true) ?_; clear hF; intro a hF
             refine L_nil ?_
             refine hK29 _ _ ?_
             refine wp_ret ?_
             refine ret2 hF (v := .agg #[.bool y.six, .int .u8 ((y.b0.toNat : Int)), .int .u8 ((y.b1.toNat : Int)), .int .u8 ((y.b2.toNat : Int)), .int .u8 ((y.b3.toNat : Int)), .int .u8 ((y.b4.toNat : Int)), .int .u8 ((y.b5.toNat : Int)), .int .u8 ((y.b6.toNat : Int)), .int .u8 ((y.b7.toNat : Int)), .int .u8 ((y.b8.toNat : Int)), .int .u8 ((y.b9.toNat : Int)), .int .u8 ((y.b10.toNat : Int)), .int .u8 ((y.b11.toNat : Int)), .int .u8 ((y.b12.toNat : Int)), .int .u8 ((y.b13.toNat : Int)), .int .u8 ((y.b14.toNat : Int)), .int .u8 ((y.b15.toNat : Int)), .int .i64 (nR s t)]) (u := .bool true) rfl (resC (ad := ⟨b1, 0, none⟩) (by kernel_rfl) (run_loadA (k := 18) (by kernel_rfl) (by kernel_rfl) (hO.blk (List.mem_cons_of_mem _ List.mem_cons_self)) (by kernel_rfl) (by kernel_rfl))) (resT (by kernel_rfl)) (by refine ⟨?_, hO.nil⟩; (subst hy hok; rw [fin_yes (pt_fin hI (by omega) (u8_eq q5) (fun e => absurd e.2 (u8_ne q7)) q8 (brk_no (fun hb => absurd hb.2.2 (u8_ne q11)))) q14 (bne_f q15)]; rfl)) .ret (.inl rfl)
            ·
             replace hF := hF.know (d := 112) (v' := .bool true) (by kernel_rfl) (congrArg Value.bool q15)
             refine cond_t hF (by kernel_rfl) (by kernel_rfl) ?_
             refine wp_seq_k fun K30 hK30 => ?_
             refine wp_region_lit ?_
             refine Vp hF (.agg zPPtsR) ?_; clear hF; intro a hF
             obtain ⟨W16, hst, hO1⟩ := run_storeAt (P := Tryz.prog) (k := 18) (T := 45) (off := 0) (v := .agg zPPtsR) (cs := zPPtsR) (cs' := zPPtsR) hO (by kernel_rfl) (by kernel_rfl) (by kernel_rfl) (Nat.le_of_ble_eq_true (by kernel_rfl)) (by kernel_rfl) (.tail (.head _))
             refine L_skip hF (by kernel_rfl) (by kernel_rfl) (x_store (p := .pointer (some ⟨b1, 0, none⟩)) (v := .agg zPPtsR) rfl (by kernel_rfl) (by kernel_rfl) hst) (by kernel_rfl) ?_
             clear hst hF; intro a hF; replace hO := hO1; clear hO1
             refine Vp hF (.bool false) ?_; clear hF; intro a hF
             refine L_nil ?_
             refine hK30 _ _ ?_
             refine wp_ret ?_
             refine then_ret ?_
             refine ret2 hF (v := .agg zPPtsR) (u := .bool false) rfl (resC (ad := ⟨b1, 0, none⟩) (by kernel_rfl) (run_loadA (k := 18) (by kernel_rfl) (by kernel_rfl) (hO.blk (List.mem_cons_of_mem _ List.mem_cons_self)) (by kernel_rfl) (by kernel_rfl))) (resT (by kernel_rfl)) (by refine ⟨?_, hO.nil⟩; (subst hy hok; rw [fin_no (pt_fin hI (by omega) (u8_eq q5) (fun e => absurd e.2 (u8_ne q7)) q8 (brk_no (fun hb => absurd hb.2.2 (u8_ne q11)))) (.inr (bne_t q15))]; rfl)) .ret (.inl rfl)
         ·
          replace hF := hF.know (d := 87) (v' := .bool false) (by kernel_rfl) (congrArg Value.bool (eqF q10))
          refine Lo hF ?_; clear hF; intro a hF
          refine Lo hF ?_; clear hF; intro a hF
          refine Lo hF ?_; clear hF; intro a hF
          refine Lo hF ?_; clear hF; intro a hF
          refine Lo hF ?_; clear hF; intro a hF
          refine Lo hF ?_; clear hF; intro a hF
          refine Vp hF (.bool false) ?_; clear hF; intro a hF
          refine L_nil ?_
          refine hK18 _ _ ?_
          refine cond_f hF (by kernel_rfl) (by kernel_rfl) ?_
          refine wp_skip ?_
          refine hK17 _ _ ?_
          refine wp_seq_k fun K31 hK31 => ?_
          refine wp_region_lit ?_
          refine Vp hF (.string (s.extract 0 (((s.size : Int) - 1 - (t : Int)).toNat))) ?_; clear hF; intro a hF
          obtain ⟨y, hy⟩ : ∃ y : Ip, (parseIp (s.extract 0 (((s.size : Int) - 1 - (t : Int)).toNat))).getD noIp = y := ⟨_, rfl⟩
          obtain ⟨ok, hok⟩ : ∃ ok : Bool, (parseIp (s.extract 0 (((s.size : Int) - 1 - (t : Int)).toNat))).isSome = ok := ⟨_, rfl⟩
          refine Lc hF ((ref02_Parse (s.extract 0 (((s.size : Int) - 1 - (t : Int)).toNat)) W4 (by first | exact Nat.le_trans (ext_le _ _ _) (Nat.le_trans (ext_le _ _ _) hs) | exact Nat.le_trans (ext_le _ _ _) hs)).mono fun v W' h => (⟨by rw [h.1, ← hy, ← hok]; rfl, h.2⟩ : v = .tuple #[ipV y, .bool ok] ∧ Own W4 noX [] W')) ?_
          clear hF; rintro _ W17 a ⟨rfl, hk⟩ hF
          replace hO := hO.call0 hk; clear hk
          refine Vp hF (.tuple #[ipV y, .bool ok]) ?_; clear hF; intro a hF
          refine Vp hF (ipV y) ?_; clear hF; intro a hF
          refine Vp hF (.bool ok) ?_; clear hF; intro a hF
          refine L_new hF hO (by kernel_rfl) (by kernel_rfl) (vf := fun b => .pointer (some ⟨b, 0, none⟩)) (ob := .cells zFPtsR 33) (by kernel_rfl) (by kernel_rfl) ?_
          clear hF hO; intro b4 W18 a hO hF
          obtain ⟨W19, hst, hO1⟩ := run_storeAt (P := Tryz.prog) (k := 17) (T := 33) (off := 0) (v := ipV y) (cs := zFPtsR) (cs' := (ipL y).toArray) hO (by kernel_rfl) (by kernel_rfl) (by kernel_rfl) (Nat.le_of_ble_eq_true (by kernel_rfl)) (by kernel_rfl) (.head _)
          refine L_skip hF (by kernel_rfl) (by kernel_rfl) (x_store (p := .pointer (some ⟨b4, 0, none⟩)) (v := ipV y) rfl (by kernel_rfl) (by kernel_rfl) hst) (by kernel_rfl) ?_
          clear hst hF; intro a hF; replace hO := hO1; clear hO1
          refine Vp hF (.bool ok) ?_; clear hF; intro a hF
          refine L_nil ?_
          refine hK31 _ _ ?_
          refine wp_seq_k fun K32 hK32 => ?_
          refine wp_seq_k fun K33 hK33 => ?_
          refine wp_region_lit ?_
          refine Vp hF (.bool ok) ?_; clear hF; intro a hF
          refine Vp hF (.bool (!ok)) ?_; clear hF; intro a hF
          refine Vp hF (.bool (!ok)) ?_; clear hF; intro a hF
          cases q16 : (ok : Bool)
          ·
           replace hF := hF.know (d := 107) (v' := .bool true) (by kernel_rfl) (congrArg Value.bool (notT q16))
           refine Lo hF ?_; clear hF; intro a hF
           refine Lo hF ?_; clear hF; intro a hF
           refine Lo hF ?_; clear hF; intro a hF
           refine Lo hF ?_; clear hF; intro a hF
           refine Vp hF (.bool true) ?_; clear hF; intro a hF
           refine L_nil ?_
           refine hK33 _ _ ?_
           refine cond_t hF (by kernel_rfl) (by kernel_rfl) ?_
           refine wp_seq_k fun K34 hK34 => ?_
           refine wp_region_lit ?_
           refine Vp hF (.agg zPPtsR) ?_; clear hF; intro a hF
           obtain ⟨W20, hst, hO1⟩ := run_storeAt (P := Tryz.prog) (k := 18) (T := 45) (off := 0) (v := .agg zPPtsR) (cs := zPPtsR) (cs' := zPPtsR) hO (by kernel_rfl) (by kernel_rfl) (by kernel_rfl) (Nat.le_of_ble_eq_true (by kernel_rfl)) (by kernel_rfl) (.tail (.head _))
           refine L_skip hF (by kernel_rfl) (by kernel_rfl) (x_store (p := .pointer (some ⟨b1, 0, none⟩)) (v := .agg zPPtsR) rfl (by kernel_rfl) (by kernel_rfl) hst) (by kernel_rfl) ?_
           clear hst hF; intro a hF; replace hO := hO1; clear hO1
           refine Vp hF (.bool false) ?_; clear hF; intro a hF
           refine L_nil ?_
           refine hK34 _ _ ?_
           refine wp_ret ?_
           refine then_ret ?_
           refine ret2 hF (v := .agg zPPtsR) (u := .bool false) rfl (resC (ad := ⟨b1, 0, none⟩) (by kernel_rfl) (run_loadA (k := 18) (by kernel_rfl) (by kernel_rfl) (hO.blk (List.mem_cons_of_mem _ List.mem_cons_self)) (by kernel_rfl) (by kernel_rfl))) (resT (by kernel_rfl)) (by refine ⟨?_, hO.nil⟩; (subst hy hok; rw [fin_no (pt_fin hI (by omega) (u8_eq q5) (fun e => absurd e.2 (u8_ne q7)) q8 (brk_no (fun hb => absurd hb.2.1 (u8_ne q10)))) (.inl q16)]; rfl)) .ret (.inl rfl)
          ·
           replace hF := hF.know (d := 107) (v' := .bool false) (by kernel_rfl) (congrArg Value.bool (notF q16))
           refine Vp hF (.pointer (some ⟨b4, 0, none⟩)) ?_; clear hF; intro a hF
           refine Vr hF (.bool y.six) (x_load (p := .pointer (some ⟨b4, 0, none⟩)) rfl (by kernel_rfl) (run_load1 (by kernel_rfl) ((hO.cell List.mem_cons_self).trans (by kernel_rfl)))) ?_; clear hF; intro a hF
           refine Vp hF (.bool false) ?_; clear hF; intro a hF
           refine Vp hF (.bool (!(y.six == false))) ?_; clear hF; intro a hF
           refine Vp hF (.bool (!(y.six == false))) ?_; clear hF; intro a hF
           refine L_nil ?_
           refine hK33 _ _ ?_
           cases q17 : (!(y.six == false) : Bool)
           ·
            replace hF := hF.know (d := 112) (v' := .bool false) (by kernel_rfl) (congrArg Value.bool q17)
            refine cond_f hF (by kernel_rfl) (by kernel_rfl) ?_
            refine wp_skip ?_
            refine hK32 _ _ ?_
            refine wp_seq_k fun K35 hK35 => ?_
            refine wp_region_lit ?_
            refine Vr hF (ipV y) (x_load (p := .pointer (some ⟨b4, 0, none⟩)) rfl (by kernel_rfl) (run_loadA (k := 17) (by kernel_rfl) (by kernel_rfl) (hO.blk List.mem_cons_self) (by kernel_rfl) (by kernel_rfl))) ?_; clear hF; intro a hF
            refine Vp hF (.int .i64 (nR s t)) ?_; clear hF; intro a hF
            refine Vp hF (.agg #[.bool y.six, .int .u8 ((y.b0.toNat : Int)), .int .u8 ((y.b1.toNat : Int)), .int .u8 ((y.b2.toNat : Int)), .int .u8 ((y.b3.toNat : Int)), .int .u8 ((y.b4.toNat : Int)), .int .u8 ((y.b5.toNat : Int)), .int .u8 ((y.b6.toNat : Int)), .int .u8 ((y.b7.toNat : Int)), .int .u8 ((y.b8.toNat : Int)), .int .u8 ((y.b9.toNat : Int)), .int .u8 ((y.b10.toNat : Int)), .int .u8 ((y.b11.toNat : Int)), .int .u8 ((y.b12.toNat : Int)), .int .u8 ((y.b13.toNat : Int)), .int .u8 ((y.b14.toNat : Int)), .int .u8 ((y.b15.toNat : Int)), .int .i64 (nR s t)]) ?_; clear hF; intro a hF
            obtain ⟨W21, hst, hO1⟩ := run_storeAt (P := Tryz.prog) (k := 18) (T := 45) (off := 0) (v := .agg #[.bool y.six, .int .u8 ((y.b0.toNat : Int)), .int .u8 ((y.b1.toNat : Int)), .int .u8 ((y.b2.toNat : Int)), .int .u8 ((y.b3.toNat : Int)), .int .u8 ((y.b4.toNat : Int)), .int .u8 ((y.b5.toNat : Int)), .int .u8 ((y.b6.toNat : Int)), .int .u8 ((y.b7.toNat : Int)), .int .u8 ((y.b8.toNat : Int)), .int .u8 ((y.b9.toNat : Int)), .int .u8 ((y.b10.toNat : Int)), .int .u8 ((y.b11.toNat : Int)), .int .u8 ((y.b12.toNat : Int)), .int .u8 ((y.b13.toNat : Int)), .int .u8 ((y.b14.toNat : Int)), .int .u8 ((y.b15.toNat : Int)), .int .i64 (nR s t)]) (cs := zPPtsR) (cs' := #[.bool y.six, .int .u8 ((y.b0.toNat : Int)), .int .u8 ((y.b1.toNat : Int)), .int .u8 ((y.b2.toNat : Int)), .int .u8 ((y.b3.toNat : Int)), .int .u8 ((y.b4.toNat : Int)), .int .u8 ((y.b5.toNat : Int)), .int .u8 ((y.b6.toNat : Int)), .int .u8 ((y.b7.toNat : Int)), .int .u8 ((y.b8.toNat : Int)), .int .u8 ((y.b9.toNat : Int)), .int .u8 ((y.b10.toNat : Int)), .int .u8 ((y.b11.toNat : Int)), .int .u8 ((y.b12.toNat : Int)), .int .u8 ((y.b13.toNat : Int)), .int .u8 ((y.b14.toNat : Int)), .int .u8 ((y.b15.toNat : Int)), .int .i64 (nR s t)]) hO (by kernel_rfl) (by kernel_rfl) (by kernel_rfl) (Nat.le_of_ble_eq_true (by kernel_rfl)) (by kernel_rfl) (.tail (.head _))
            refine L_skip hF (by kernel_rfl) (by kernel_rfl) (x_store (p := .pointer (some ⟨b1, 0, none⟩)) (v := .agg #[.bool y.six, .int .u8 ((y.b0.toNat : Int)), .int .u8 ((y.b1.toNat : Int)), .int .u8 ((y.b2.toNat : Int)), .int .u8 ((y.b3.toNat : Int)), .int .u8 ((y.b4.toNat : Int)), .int .u8 ((y.b5.toNat : Int)), .int .u8 ((y.b6.toNat : Int)), .int .u8 ((y.b7.toNat : Int)), .int .u8 ((y.b8.toNat : Int)), .int .u8 ((y.b9.toNat : Int)), .int .u8 ((y.b10.toNat : Int)), .int .u8 ((y.b11.toNat : Int)), .int .u8 ((y.b12.toNat : Int)), .int .u8 ((y.b13.toNat : Int)), .int .u8 ((y.b14.toNat : Int)), .int .u8 ((y.b15.toNat : Int)), .int .i64 (nR s t)]) rfl (by kernel_rfl) (by kernel_rfl) hst) (by kernel_rfl) ?_
            clear hst hF; intro a hF; replace hO := hO1; clear hO1
            refine Vp hF (.bool true) ?_; clear hF; intro a hF
            refine L_nil ?_
            refine hK35 _ _ ?_
            refine wp_ret ?_
            refine ret2 hF (v := .agg #[.bool y.six, .int .u8 ((y.b0.toNat : Int)), .int .u8 ((y.b1.toNat : Int)), .int .u8 ((y.b2.toNat : Int)), .int .u8 ((y.b3.toNat : Int)), .int .u8 ((y.b4.toNat : Int)), .int .u8 ((y.b5.toNat : Int)), .int .u8 ((y.b6.toNat : Int)), .int .u8 ((y.b7.toNat : Int)), .int .u8 ((y.b8.toNat : Int)), .int .u8 ((y.b9.toNat : Int)), .int .u8 ((y.b10.toNat : Int)), .int .u8 ((y.b11.toNat : Int)), .int .u8 ((y.b12.toNat : Int)), .int .u8 ((y.b13.toNat : Int)), .int .u8 ((y.b14.toNat : Int)), .int .u8 ((y.b15.toNat : Int)), .int .i64 (nR s t)]) (u := .bool true) rfl (resC (ad := ⟨b1, 0, none⟩) (by kernel_rfl) (run_loadA (k := 18) (by kernel_rfl) (by kernel_rfl) (hO.blk (List.mem_cons_of_mem _ List.mem_cons_self)) (by kernel_rfl) (by kernel_rfl))) (resT (by kernel_rfl)) (by refine ⟨?_, hO.nil⟩; (subst hy hok; rw [fin_yes (pt_fin hI (by omega) (u8_eq q5) (fun e => absurd e.2 (u8_ne q7)) q8 (brk_no (fun hb => absurd hb.2.1 (u8_ne q10)))) q16 (bne_f q17)]; rfl)) .ret (.inl rfl)
           ·
            replace hF := hF.know (d := 112) (v' := .bool true) (by kernel_rfl) (congrArg Value.bool q17)
            refine cond_t hF (by kernel_rfl) (by kernel_rfl) ?_
            refine wp_seq_k fun K36 hK36 => ?_
            refine wp_region_lit ?_
            refine Vp hF (.agg zPPtsR) ?_; clear hF; intro a hF
            obtain ⟨W22, hst, hO1⟩ := run_storeAt (P := Tryz.prog) (k := 18) (T := 45) (off := 0) (v := .agg zPPtsR) (cs := zPPtsR) (cs' := zPPtsR) hO (by kernel_rfl) (by kernel_rfl) (by kernel_rfl) (Nat.le_of_ble_eq_true (by kernel_rfl)) (by kernel_rfl) (.tail (.head _))
            refine L_skip hF (by kernel_rfl) (by kernel_rfl) (x_store (p := .pointer (some ⟨b1, 0, none⟩)) (v := .agg zPPtsR) rfl (by kernel_rfl) (by kernel_rfl) hst) (by kernel_rfl) ?_
            clear hst hF; intro a hF; replace hO := hO1; clear hO1
            refine Vp hF (.bool false) ?_; clear hF; intro a hF
            refine L_nil ?_
            refine hK36 _ _ ?_
            refine wp_ret ?_
            refine then_ret ?_
            refine ret2 hF (v := .agg zPPtsR) (u := .bool false) rfl (resC (ad := ⟨b1, 0, none⟩) (by kernel_rfl) (run_loadA (k := 18) (by kernel_rfl) (by kernel_rfl) (hO.blk (List.mem_cons_of_mem _ List.mem_cons_self)) (by kernel_rfl) (by kernel_rfl))) (resT (by kernel_rfl)) (by refine ⟨?_, hO.nil⟩; (subst hy hok; rw [fin_no (pt_fin hI (by omega) (u8_eq q5) (fun e => absurd e.2 (u8_ne q7)) q8 (brk_no (fun hb => absurd hb.2.1 (u8_ne q10)))) (.inr (bne_t q17))]; rfl)) .ret (.inl rfl)
        ·
         replace hF := hF.know (d := 82) (v' := .bool false) (by kernel_rfl) (congrArg Value.bool (decide_eq_false q9))
         refine Lo hF ?_; clear hF; intro a hF
         refine Lo hF ?_; clear hF; intro a hF
         refine Lo hF ?_; clear hF; intro a hF
         refine Vp hF (.bool false) ?_; clear hF; intro a hF
         refine Vp hF (.bool false) ?_; clear hF; intro a hF
         refine Lo hF ?_; clear hF; intro a hF
         refine Lo hF ?_; clear hF; intro a hF
         refine Lo hF ?_; clear hF; intro a hF
         refine Lo hF ?_; clear hF; intro a hF
         refine Lo hF ?_; clear hF; intro a hF
         refine Lo hF ?_; clear hF; intro a hF
         refine Vp hF (.bool false) ?_; clear hF; intro a hF
         refine L_nil ?_
         refine hK18 _ _ ?_
         refine cond_f hF (by kernel_rfl) (by kernel_rfl) ?_
         refine wp_skip ?_
         refine hK17 _ _ ?_
         refine wp_seq_k fun K37 hK37 => ?_
         refine wp_region_lit ?_
         refine Vp hF (.string (s.extract 0 (((s.size : Int) - 1 - (t : Int)).toNat))) ?_; clear hF; intro a hF
         obtain ⟨y, hy⟩ : ∃ y : Ip, (parseIp (s.extract 0 (((s.size : Int) - 1 - (t : Int)).toNat))).getD noIp = y := ⟨_, rfl⟩
         obtain ⟨ok, hok⟩ : ∃ ok : Bool, (parseIp (s.extract 0 (((s.size : Int) - 1 - (t : Int)).toNat))).isSome = ok := ⟨_, rfl⟩
         refine Lc hF ((ref02_Parse (s.extract 0 (((s.size : Int) - 1 - (t : Int)).toNat)) W4 (by first | exact Nat.le_trans (ext_le _ _ _) (Nat.le_trans (ext_le _ _ _) hs) | exact Nat.le_trans (ext_le _ _ _) hs)).mono fun v W' h => (⟨by rw [h.1, ← hy, ← hok]; rfl, h.2⟩ : v = .tuple #[ipV y, .bool ok] ∧ Own W4 noX [] W')) ?_
         clear hF; rintro _ W23 a ⟨rfl, hk⟩ hF
         replace hO := hO.call0 hk; clear hk
         refine Vp hF (.tuple #[ipV y, .bool ok]) ?_; clear hF; intro a hF
         refine Vp hF (ipV y) ?_; clear hF; intro a hF
         refine Vp hF (.bool ok) ?_; clear hF; intro a hF
         refine L_new hF hO (by kernel_rfl) (by kernel_rfl) (vf := fun b => .pointer (some ⟨b, 0, none⟩)) (ob := .cells zFPtsR 33) (by kernel_rfl) (by kernel_rfl) ?_
         clear hF hO; intro b5 W24 a hO hF
         obtain ⟨W25, hst, hO1⟩ := run_storeAt (P := Tryz.prog) (k := 17) (T := 33) (off := 0) (v := ipV y) (cs := zFPtsR) (cs' := (ipL y).toArray) hO (by kernel_rfl) (by kernel_rfl) (by kernel_rfl) (Nat.le_of_ble_eq_true (by kernel_rfl)) (by kernel_rfl) (.head _)
         refine L_skip hF (by kernel_rfl) (by kernel_rfl) (x_store (p := .pointer (some ⟨b5, 0, none⟩)) (v := ipV y) rfl (by kernel_rfl) (by kernel_rfl) hst) (by kernel_rfl) ?_
         clear hst hF; intro a hF; replace hO := hO1; clear hO1
         refine Vp hF (.bool ok) ?_; clear hF; intro a hF
         refine L_nil ?_
         refine hK37 _ _ ?_
         refine wp_seq_k fun K38 hK38 => ?_
         refine wp_seq_k fun K39 hK39 => ?_
         refine wp_region_lit ?_
         refine Vp hF (.bool ok) ?_; clear hF; intro a hF
         refine Vp hF (.bool (!ok)) ?_; clear hF; intro a hF
         refine Vp hF (.bool (!ok)) ?_; clear hF; intro a hF
         cases q18 : (ok : Bool)
         ·
          replace hF := hF.know (d := 107) (v' := .bool true) (by kernel_rfl) (congrArg Value.bool (notT q18))
          refine Lo hF ?_; clear hF; intro a hF
          refine Lo hF ?_; clear hF; intro a hF
          refine Lo hF ?_; clear hF; intro a hF
          refine Lo hF ?_; clear hF; intro a hF
          refine Vp hF (.bool true) ?_; clear hF; intro a hF
          refine L_nil ?_
          refine hK39 _ _ ?_
          refine cond_t hF (by kernel_rfl) (by kernel_rfl) ?_
          refine wp_seq_k fun K40 hK40 => ?_
          refine wp_region_lit ?_
          refine Vp hF (.agg zPPtsR) ?_; clear hF; intro a hF
          obtain ⟨W26, hst, hO1⟩ := run_storeAt (P := Tryz.prog) (k := 18) (T := 45) (off := 0) (v := .agg zPPtsR) (cs := zPPtsR) (cs' := zPPtsR) hO (by kernel_rfl) (by kernel_rfl) (by kernel_rfl) (Nat.le_of_ble_eq_true (by kernel_rfl)) (by kernel_rfl) (.tail (.head _))
          refine L_skip hF (by kernel_rfl) (by kernel_rfl) (x_store (p := .pointer (some ⟨b1, 0, none⟩)) (v := .agg zPPtsR) rfl (by kernel_rfl) (by kernel_rfl) hst) (by kernel_rfl) ?_
          clear hst hF; intro a hF; replace hO := hO1; clear hO1
          refine Vp hF (.bool false) ?_; clear hF; intro a hF
          refine L_nil ?_
          refine hK40 _ _ ?_
          refine wp_ret ?_
          refine then_ret ?_
          refine ret2 hF (v := .agg zPPtsR) (u := .bool false) rfl (resC (ad := ⟨b1, 0, none⟩) (by kernel_rfl) (run_loadA (k := 18) (by kernel_rfl) (by kernel_rfl) (hO.blk (List.mem_cons_of_mem _ List.mem_cons_self)) (by kernel_rfl) (by kernel_rfl))) (resT (by kernel_rfl)) (by refine ⟨?_, hO.nil⟩; (subst hy hok; rw [fin_no (pt_fin hI (by omega) (u8_eq q5) (fun e => absurd e.2 (u8_ne q7)) q8 (brk_no (fun hb => absurd hb.1 (by omega)))) (.inl q18)]; rfl)) .ret (.inl rfl)
         ·
          replace hF := hF.know (d := 107) (v' := .bool false) (by kernel_rfl) (congrArg Value.bool (notF q18))
          refine Vp hF (.pointer (some ⟨b5, 0, none⟩)) ?_; clear hF; intro a hF
          refine Vr hF (.bool y.six) (x_load (p := .pointer (some ⟨b5, 0, none⟩)) rfl (by kernel_rfl) (run_load1 (by kernel_rfl) ((hO.cell List.mem_cons_self).trans (by kernel_rfl)))) ?_; clear hF; intro a hF
          refine Vp hF (.bool false) ?_; clear hF; intro a hF
          refine Vp hF (.bool (!(y.six == false))) ?_; clear hF; intro a hF
          refine Vp hF (.bool (!(y.six == false))) ?_; clear hF; intro a hF
          refine L_nil ?_
          refine hK39 _ _ ?_
          cases q19 : (!(y.six == false) : Bool)
          ·
           replace hF := hF.know (d := 112) (v' := .bool false) (by kernel_rfl) (congrArg Value.bool q19)
           refine cond_f hF (by kernel_rfl) (by kernel_rfl) ?_
           refine wp_skip ?_
           refine hK38 _ _ ?_
           refine wp_seq_k fun K41 hK41 => ?_
           refine wp_region_lit ?_
           refine Vr hF (ipV y) (x_load (p := .pointer (some ⟨b5, 0, none⟩)) rfl (by kernel_rfl) (run_loadA (k := 17) (by kernel_rfl) (by kernel_rfl) (hO.blk List.mem_cons_self) (by kernel_rfl) (by kernel_rfl))) ?_; clear hF; intro a hF
           refine Vp hF (.int .i64 (nR s t)) ?_; clear hF; intro a hF
           refine Vp hF (.agg #[.bool y.six, .int .u8 ((y.b0.toNat : Int)), .int .u8 ((y.b1.toNat : Int)), .int .u8 ((y.b2.toNat : Int)), .int .u8 ((y.b3.toNat : Int)), .int .u8 ((y.b4.toNat : Int)), .int .u8 ((y.b5.toNat : Int)), .int .u8 ((y.b6.toNat : Int)), .int .u8 ((y.b7.toNat : Int)), .int .u8 ((y.b8.toNat : Int)), .int .u8 ((y.b9.toNat : Int)), .int .u8 ((y.b10.toNat : Int)), .int .u8 ((y.b11.toNat : Int)), .int .u8 ((y.b12.toNat : Int)), .int .u8 ((y.b13.toNat : Int)), .int .u8 ((y.b14.toNat : Int)), .int .u8 ((y.b15.toNat : Int)), .int .i64 (nR s t)]) ?_; clear hF; intro a hF
           obtain ⟨W27, hst, hO1⟩ := run_storeAt (P := Tryz.prog) (k := 18) (T := 45) (off := 0) (v := .agg #[.bool y.six, .int .u8 ((y.b0.toNat : Int)), .int .u8 ((y.b1.toNat : Int)), .int .u8 ((y.b2.toNat : Int)), .int .u8 ((y.b3.toNat : Int)), .int .u8 ((y.b4.toNat : Int)), .int .u8 ((y.b5.toNat : Int)), .int .u8 ((y.b6.toNat : Int)), .int .u8 ((y.b7.toNat : Int)), .int .u8 ((y.b8.toNat : Int)), .int .u8 ((y.b9.toNat : Int)), .int .u8 ((y.b10.toNat : Int)), .int .u8 ((y.b11.toNat : Int)), .int .u8 ((y.b12.toNat : Int)), .int .u8 ((y.b13.toNat : Int)), .int .u8 ((y.b14.toNat : Int)), .int .u8 ((y.b15.toNat : Int)), .int .i64 (nR s t)]) (cs := zPPtsR) (cs' := #[.bool y.six, .int .u8 ((y.b0.toNat : Int)), .int .u8 ((y.b1.toNat : Int)), .int .u8 ((y.b2.toNat : Int)), .int .u8 ((y.b3.toNat : Int)), .int .u8 ((y.b4.toNat : Int)), .int .u8 ((y.b5.toNat : Int)), .int .u8 ((y.b6.toNat : Int)), .int .u8 ((y.b7.toNat : Int)), .int .u8 ((y.b8.toNat : Int)), .int .u8 ((y.b9.toNat : Int)), .int .u8 ((y.b10.toNat : Int)), .int .u8 ((y.b11.toNat : Int)), .int .u8 ((y.b12.toNat : Int)), .int .u8 ((y.b13.toNat : Int)), .int .u8 ((y.b14.toNat : Int)), .int .u8 ((y.b15.toNat : Int)), .int .i64 (nR s t)]) hO (by kernel_rfl) (by kernel_rfl) (by kernel_rfl) (Nat.le_of_ble_eq_true (by kernel_rfl)) (by kernel_rfl) (.tail (.head _))
           refine L_skip hF (by kernel_rfl) (by kernel_rfl) (x_store (p := .pointer (some ⟨b1, 0, none⟩)) (v := .agg #[.bool y.six, .int .u8 ((y.b0.toNat : Int)), .int .u8 ((y.b1.toNat : Int)), .int .u8 ((y.b2.toNat : Int)), .int .u8 ((y.b3.toNat : Int)), .int .u8 ((y.b4.toNat : Int)), .int .u8 ((y.b5.toNat : Int)), .int .u8 ((y.b6.toNat : Int)), .int .u8 ((y.b7.toNat : Int)), .int .u8 ((y.b8.toNat : Int)), .int .u8 ((y.b9.toNat : Int)), .int .u8 ((y.b10.toNat : Int)), .int .u8 ((y.b11.toNat : Int)), .int .u8 ((y.b12.toNat : Int)), .int .u8 ((y.b13.toNat : Int)), .int .u8 ((y.b14.toNat : Int)), .int .u8 ((y.b15.toNat : Int)), .int .i64 (nR s t)]) rfl (by kernel_rfl) (by kernel_rfl) hst) (by kernel_rfl) ?_
           clear hst hF; intro a hF; replace hO := hO1; clear hO1
           refine Vp hF (.bool true) ?_; clear hF; intro a hF
           refine L_nil ?_
           refine hK41 _ _ ?_
           refine wp_ret ?_
           refine ret2 hF (v := .agg #[.bool y.six, .int .u8 ((y.b0.toNat : Int)), .int .u8 ((y.b1.toNat : Int)), .int .u8 ((y.b2.toNat : Int)), .int .u8 ((y.b3.toNat : Int)), .int .u8 ((y.b4.toNat : Int)), .int .u8 ((y.b5.toNat : Int)), .int .u8 ((y.b6.toNat : Int)), .int .u8 ((y.b7.toNat : Int)), .int .u8 ((y.b8.toNat : Int)), .int .u8 ((y.b9.toNat : Int)), .int .u8 ((y.b10.toNat : Int)), .int .u8 ((y.b11.toNat : Int)), .int .u8 ((y.b12.toNat : Int)), .int .u8 ((y.b13.toNat : Int)), .int .u8 ((y.b14.toNat : Int)), .int .u8 ((y.b15.toNat : Int)), .int .i64 (nR s t)]) (u := .bool true) rfl (resC (ad := ⟨b1, 0, none⟩) (by kernel_rfl) (run_loadA (k := 18) (by kernel_rfl) (by kernel_rfl) (hO.blk (List.mem_cons_of_mem _ List.mem_cons_self)) (by kernel_rfl) (by kernel_rfl))) (resT (by kernel_rfl)) (by refine ⟨?_, hO.nil⟩; (subst hy hok; rw [fin_yes (pt_fin hI (by omega) (u8_eq q5) (fun e => absurd e.2 (u8_ne q7)) q8 (brk_no (fun hb => absurd hb.1 (by omega)))) q18 (bne_f q19)]; rfl)) .ret (.inl rfl)
          ·
           replace hF := hF.know (d := 112) (v' := .bool true) (by kernel_rfl) (congrArg Value.bool q19)
           refine cond_t hF (by kernel_rfl) (by kernel_rfl) ?_
           refine wp_seq_k fun K42 hK42 => ?_
           refine wp_region_lit ?_
           refine Vp hF (.agg zPPtsR) ?_; clear hF; intro a hF
           obtain ⟨W28, hst, hO1⟩ := run_storeAt (P := Tryz.prog) (k := 18) (T := 45) (off := 0) (v := .agg zPPtsR) (cs := zPPtsR) (cs' := zPPtsR) hO (by kernel_rfl) (by kernel_rfl) (by kernel_rfl) (Nat.le_of_ble_eq_true (by kernel_rfl)) (by kernel_rfl) (.tail (.head _))
           refine L_skip hF (by kernel_rfl) (by kernel_rfl) (x_store (p := .pointer (some ⟨b1, 0, none⟩)) (v := .agg zPPtsR) rfl (by kernel_rfl) (by kernel_rfl) hst) (by kernel_rfl) ?_
           clear hst hF; intro a hF; replace hO := hO1; clear hO1
           refine Vp hF (.bool false) ?_; clear hF; intro a hF
           refine L_nil ?_
           refine hK42 _ _ ?_
           refine wp_ret ?_
           refine then_ret ?_
           refine ret2 hF (v := .agg zPPtsR) (u := .bool false) rfl (resC (ad := ⟨b1, 0, none⟩) (by kernel_rfl) (run_loadA (k := 18) (by kernel_rfl) (by kernel_rfl) (hO.blk (List.mem_cons_of_mem _ List.mem_cons_self)) (by kernel_rfl) (by kernel_rfl))) (resT (by kernel_rfl)) (by refine ⟨?_, hO.nil⟩; (subst hy hok; rw [fin_no (pt_fin hI (by omega) (u8_eq q5) (fun e => absurd e.2 (u8_ne q7)) q8 (brk_no (fun hb => absurd hb.1 (by omega)))) (.inr (bne_t q19))]; rfl)) .ret (.inl rfl)
       ·
        replace hF := hF.know (d := 74) (v' := .bool true) (by kernel_rfl) (congrArg Value.bool (notT (decide_eq_false q8)))
        refine cond_t hF (by kernel_rfl) (by kernel_rfl) ?_
        refine wp_seq_k fun K43 hK43 => ?_
        refine wp_region_lit ?_
        refine Vp hF (.agg zPPtsR) ?_; clear hF; intro a hF
        obtain ⟨W29, hst, hO1⟩ := run_storeAt (P := Tryz.prog) (k := 18) (T := 45) (off := 0) (v := .agg zPPtsR) (cs := zPPtsR) (cs' := zPPtsR) hO (by kernel_rfl) (by kernel_rfl) (by kernel_rfl) (Nat.le_of_ble_eq_true (by kernel_rfl)) (by kernel_rfl) (.head _)
        refine L_skip hF (by kernel_rfl) (by kernel_rfl) (x_store (p := .pointer (some ⟨b1, 0, none⟩)) (v := .agg zPPtsR) rfl (by kernel_rfl) (by kernel_rfl) hst) (by kernel_rfl) ?_
        clear hst hF; intro a hF; replace hO := hO1; clear hO1
        refine Vp hF (.bool false) ?_; clear hF; intro a hF
        refine L_nil ?_
        refine hK43 _ _ ?_
        refine wp_ret ?_
        refine then_ret ?_
        refine ret2 hF (v := .agg zPPtsR) (u := .bool false) rfl (resC (ad := ⟨b1, 0, none⟩) (by kernel_rfl) (run_loadA (k := 18) (by kernel_rfl) (by kernel_rfl) (hO.blk List.mem_cons_self) (by kernel_rfl) (by kernel_rfl))) (resT (by kernel_rfl)) (by refine ⟨?_, hO.nil⟩; (rw [pt_range hI.1 hI.2.1 hI.2.2 (by omega) (u8_eq q5) q8]; rfl)) .ret (.inl rfl)
     ·
      replace hF := hF.know (d := 62) (v' := .bool false) (by kernel_rfl) (congrArg Value.bool (decide_eq_false q6))
      refine Lo hF ?_; clear hF; intro a hF
      refine Lo hF ?_; clear hF; intro a hF
      refine Lo hF ?_; clear hF; intro a hF
      refine Lo hF ?_; clear hF; intro a hF
      refine Lo hF ?_; clear hF; intro a hF
      refine Vp hF (.bool false) ?_; clear hF; intro a hF
      refine Vp hF (.bool false) ?_; clear hF; intro a hF
      refine Vp hF (.bool false) ?_; clear hF; intro a hF
      refine Vp hF (.int .i64 (nR s t)) ?_; clear hF; intro a hF
      refine Lc hF (ref04_Right (nR s t) Wl1) ?_
      clear hF; rintro _ W30 a ⟨rfl, hk⟩ hF
      replace hO := hO.call0 hk; clear hk
      refine Vp hF (.bool (!(decide (1 ≤ nR s t ∧ nR s t ≤ 65535)))) ?_; clear hF; intro a hF
      refine Vp hF (.bool (!(decide (1 ≤ nR s t ∧ nR s t ≤ 65535)))) ?_; clear hF; intro a hF
      refine L_nil ?_
      refine hK13 _ _ ?_
      replace hF := hF.know (d := 74) (v' := .bool true) (by kernel_rfl) (congrArg Value.bool (notT (decide_eq_false (show ¬ ((1 ≤ nR s t ∧ nR s t ≤ 65535)) from (fun e => by obtain rfl : t = 0 := (by omega); rw [nR_0] at e; omega)))))
      refine cond_t hF (by kernel_rfl) (by kernel_rfl) ?_
      refine wp_seq_k fun K44 hK44 => ?_
      refine wp_region_lit ?_
      refine Vp hF (.agg zPPtsR) ?_; clear hF; intro a hF
      obtain ⟨W31, hst, hO1⟩ := run_storeAt (P := Tryz.prog) (k := 18) (T := 45) (off := 0) (v := .agg zPPtsR) (cs := zPPtsR) (cs' := zPPtsR) hO (by kernel_rfl) (by kernel_rfl) (by kernel_rfl) (Nat.le_of_ble_eq_true (by kernel_rfl)) (by kernel_rfl) (.head _)
      refine L_skip hF (by kernel_rfl) (by kernel_rfl) (x_store (p := .pointer (some ⟨b1, 0, none⟩)) (v := .agg zPPtsR) rfl (by kernel_rfl) (by kernel_rfl) hst) (by kernel_rfl) ?_
      clear hst hF; intro a hF; replace hO := hO1; clear hO1
      refine Vp hF (.bool false) ?_; clear hF; intro a hF
      refine L_nil ?_
      refine hK44 _ _ ?_
      refine wp_ret ?_
      refine then_ret ?_
      refine ret2 hF (v := .agg zPPtsR) (u := .bool false) rfl (resC (ad := ⟨b1, 0, none⟩) (by kernel_rfl) (run_loadA (k := 18) (by kernel_rfl) (by kernel_rfl) (hO.blk List.mem_cons_self) (by kernel_rfl) (by kernel_rfl))) (resT (by kernel_rfl)) (by refine ⟨?_, hO.nil⟩; (rw [pt_range hI.1 hI.2.1 hI.2.2 (by omega) (u8_eq q5) (fun e => by obtain rfl : t = 0 := (by omega); rw [nR_0] at e; omega)]; rfl)) .ret (.inl rfl)
    ·
     replace hF := hF.know (d := 56) (v' := .bool true) (by kernel_rfl) (congrArg Value.bool (neT q5))
     refine Lo hF ?_; clear hF; intro a hF
     refine Lo hF ?_; clear hF; intro a hF
     refine Lo hF ?_; clear hF; intro a hF
     refine Lo hF ?_; clear hF; intro a hF
     refine Lo hF ?_; clear hF; intro a hF
     refine Lo hF ?_; clear hF; intro a hF
     refine Lo hF ?_; clear hF; intro a hF
     refine Lo hF ?_; clear hF; intro a hF
     refine Lo hF ?_; clear hF; intro a hF
     refine Lo hF ?_; clear hF; intro a hF
     refine Lo hF ?_; clear hF; intro a hF
     refine Lo hF ?_; clear hF; intro a hF
     refine Vp hF (.bool true) ?_; clear hF; intro a hF
     refine Vp hF (.bool true) ?_; clear hF; intro a hF
     refine Lo hF ?_; clear hF; intro a hF
     refine Lo hF ?_; clear hF; intro a hF
     refine Lo hF ?_; clear hF; intro a hF
     refine Vp hF (.bool true) ?_; clear hF; intro a hF
     refine L_nil ?_
     refine hK13 _ _ ?_
     refine cond_t hF (by kernel_rfl) (by kernel_rfl) ?_
     refine wp_seq_k fun K45 hK45 => ?_
     refine wp_region_lit ?_
     refine Vp hF (.agg zPPtsR) ?_; clear hF; intro a hF
     obtain ⟨W32, hst, hO1⟩ := run_storeAt (P := Tryz.prog) (k := 18) (T := 45) (off := 0) (v := .agg zPPtsR) (cs := zPPtsR) (cs' := zPPtsR) hO (by kernel_rfl) (by kernel_rfl) (by kernel_rfl) (Nat.le_of_ble_eq_true (by kernel_rfl)) (by kernel_rfl) (.head _)
     refine L_skip hF (by kernel_rfl) (by kernel_rfl) (x_store (p := .pointer (some ⟨b1, 0, none⟩)) (v := .agg zPPtsR) rfl (by kernel_rfl) (by kernel_rfl) hst) (by kernel_rfl) ?_
     clear hst hF; intro a hF; replace hO := hO1; clear hO1
     refine Vp hF (.bool false) ?_; clear hF; intro a hF
     refine L_nil ?_
     refine hK45 _ _ ?_
     refine wp_ret ?_
     refine then_ret ?_
     refine ret2 hF (v := .agg zPPtsR) (u := .bool false) rfl (resC (ad := ⟨b1, 0, none⟩) (by kernel_rfl) (run_loadA (k := 18) (by kernel_rfl) (by kernel_rfl) (hO.blk List.mem_cons_self) (by kernel_rfl) (by kernel_rfl))) (resT (by kernel_rfl)) (by refine ⟨?_, hO.nil⟩; (rw [pt_none_b hI.2.1 hI.2.2 (by omega) (u8_ne q5) (.inl (digB_not (.inr q3)))]; rfl)) .ret (.inl rfl)
  ·
   replace hF := hF.know (d := 22) (v' := .bool false) (by kernel_rfl) (congrArg Value.bool (decide_eq_false q2))
   refine Lo hF ?_; clear hF; intro a hF
   refine Lo hF ?_; clear hF; intro a hF
   refine Lo hF ?_; clear hF; intro a hF
   refine Lo hF ?_; clear hF; intro a hF
   refine Vp hF (.bool false) ?_; clear hF; intro a hF
   refine Vp hF (.bool false) ?_; clear hF; intro a hF
   refine Lo hF ?_; clear hF; intro a hF
   refine Lo hF ?_; clear hF; intro a hF
   refine Lo hF ?_; clear hF; intro a hF
   refine Lo hF ?_; clear hF; intro a hF
   refine Lo hF ?_; clear hF; intro a hF
   refine Vp hF (.bool false) ?_; clear hF; intro a hF
   refine L_nil ?_
   refine hK6 _ _ ?_
   refine cond_f hF (by kernel_rfl) (by kernel_rfl) ?_
   refine wp_exit ?_
   refine then_exit ?_
   refine then_exit ?_
   refine inBlock_hit ?_
   refine hK4 _ _ ?_
   refine wp_seq_k fun K46 hK46 => ?_
   refine wp_seq_k fun K47 hK47 => ?_
   refine wp_region_lit ?_
   refine Vp hF (.int .i64 ((s.size : Int) - 1 - (t : Int))) ?_; clear hF; intro a hF
   refine Vp hF (.bool (decide ((s.size : Int) - 1 - (t : Int) < 0))) ?_; clear hF; intro a hF
   refine Vp hF (.bool (decide ((s.size : Int) - 1 - (t : Int) < 0))) ?_; clear hF; intro a hF
   replace hF := hF.know (d := 50) (v' := .bool false) (by kernel_rfl) (congrArg Value.bool (decide_eq_false (show ¬ ((s.size : Int) - 1 - (t : Int) < 0) from (by omega))))
   refine Vp hF (.string s) ?_; clear hF; intro a hF
   refine Vp hF (.int .i64 ((s.size : Int) - 1 - (t : Int))) ?_; clear hF; intro a hF
   refine Vr hF (.int .u8 (bt s ((s.size : Int) - 1 - (t : Int)))) (x_idxStr (s := s) (k := .i64) (i := (s.size : Int) - 1 - (t : Int)) rfl (by kernel_rfl) (by kernel_rfl) (by kernel_rfl) (by omega) (by omega)) ?_; clear hF; intro a hF
   refine Vp hF (.bool (!((bt s ((s.size : Int) - 1 - (t : Int))) == 58))) ?_; clear hF; intro a hF
   refine Vp hF (.bool (!((bt s ((s.size : Int) - 1 - (t : Int))) == 58))) ?_; clear hF; intro a hF
   refine Vp hF (.bool (!((bt s ((s.size : Int) - 1 - (t : Int))) == 58))) ?_; clear hF; intro a hF
   replace hF := hF.know (d := 56) (v' := .bool true) (by kernel_rfl) (congrArg Value.bool (neT (show ¬ (bt s ((s.size : Int) - 1 - (t : Int)) = 58) from (by omega))))
   refine Lo hF ?_; clear hF; intro a hF
   refine Lo hF ?_; clear hF; intro a hF
   refine Lo hF ?_; clear hF; intro a hF
   refine Lo hF ?_; clear hF; intro a hF
   refine Lo hF ?_; clear hF; intro a hF
   refine Lo hF ?_; clear hF; intro a hF
   refine Lo hF ?_; clear hF; intro a hF
   refine Lo hF ?_; clear hF; intro a hF
   refine Lo hF ?_; clear hF; intro a hF
   refine Lo hF ?_; clear hF; intro a hF
   refine Lo hF ?_; clear hF; intro a hF
   refine Lo hF ?_; clear hF; intro a hF
   refine Vp hF (.bool true) ?_; clear hF; intro a hF
   refine Vp hF (.bool true) ?_; clear hF; intro a hF
   refine Lo hF ?_; clear hF; intro a hF
   refine Lo hF ?_; clear hF; intro a hF
   refine Lo hF ?_; clear hF; intro a hF
   refine Vp hF (.bool true) ?_; clear hF; intro a hF
   refine L_nil ?_
   refine hK47 _ _ ?_
   refine cond_t hF (by kernel_rfl) (by kernel_rfl) ?_
   refine wp_seq_k fun K48 hK48 => ?_
   refine wp_region_lit ?_
   refine Vp hF (.agg zPPtsR) ?_; clear hF; intro a hF
   obtain ⟨W33, hst, hO1⟩ := run_storeAt (P := Tryz.prog) (k := 18) (T := 45) (off := 0) (v := .agg zPPtsR) (cs := zPPtsR) (cs' := zPPtsR) hO (by kernel_rfl) (by kernel_rfl) (by kernel_rfl) (Nat.le_of_ble_eq_true (by kernel_rfl)) (by kernel_rfl) (.head _)
   refine L_skip hF (by kernel_rfl) (by kernel_rfl) (x_store (p := .pointer (some ⟨b1, 0, none⟩)) (v := .agg zPPtsR) rfl (by kernel_rfl) (by kernel_rfl) hst) (by kernel_rfl) ?_
   clear hst hF; intro a hF; replace hO := hO1; clear hO1
   refine Vp hF (.bool false) ?_; clear hF; intro a hF
   refine L_nil ?_
   refine hK48 _ _ ?_
   refine wp_ret ?_
   refine then_ret ?_
   refine ret2 hF (v := .agg zPPtsR) (u := .bool false) rfl (resC (ad := ⟨b1, 0, none⟩) (by kernel_rfl) (run_loadA (k := 18) (by kernel_rfl) (by kernel_rfl) (hO.blk List.mem_cons_self) (by kernel_rfl) (by kernel_rfl))) (resT (by kernel_rfl)) (by refine ⟨?_, hO.nil⟩; (rw [pt_none_b hI.2.1 hI.2.2 (by omega) (fun e => by have hbb := hbt s ((s.size : Int) - 1 - (t : Int)); rw [e] at hbb; have h58 : ((58 : UInt8).toNat : Int) = 58 := rfl; omega) (.inl (digB_not (.inl q2)))]; rfl)) .ret (.inl rfl)
 ·
  replace hF := hF.know (d := 16) (v' := .bool false) (by kernel_rfl) (congrArg Value.bool (decide_eq_false q1))
  refine Lo hF ?_; clear hF; intro a hF
  refine Lo hF ?_; clear hF; intro a hF
  refine Lo hF ?_; clear hF; intro a hF
  refine Lo hF ?_; clear hF; intro a hF
  refine Vp hF (.bool false) ?_; clear hF; intro a hF
  refine Vp hF (.bool false) ?_; clear hF; intro a hF
  refine Lo hF ?_; clear hF; intro a hF
  refine Lo hF ?_; clear hF; intro a hF
  refine Lo hF ?_; clear hF; intro a hF
  refine Lo hF ?_; clear hF; intro a hF
  refine Vp hF (.bool false) ?_; clear hF; intro a hF
  refine Vp hF (.bool false) ?_; clear hF; intro a hF
  refine Lo hF ?_; clear hF; intro a hF
  refine Lo hF ?_; clear hF; intro a hF
  refine Lo hF ?_; clear hF; intro a hF
  refine Lo hF ?_; clear hF; intro a hF
  refine Lo hF ?_; clear hF; intro a hF
  refine Vp hF (.bool false) ?_; clear hF; intro a hF
  refine L_nil ?_
  refine hK6 _ _ ?_
  refine cond_f hF (by kernel_rfl) (by kernel_rfl) ?_
  refine wp_exit ?_
  refine then_exit ?_
  refine then_exit ?_
  refine inBlock_hit ?_
  refine hK4 _ _ ?_
  refine wp_seq_k fun K49 hK49 => ?_
  refine wp_seq_k fun K50 hK50 => ?_
  refine wp_region_lit ?_
  refine Vp hF (.int .i64 ((s.size : Int) - 1 - (t : Int))) ?_; clear hF; intro a hF
  refine Vp hF (.bool (decide ((s.size : Int) - 1 - (t : Int) < 0))) ?_; clear hF; intro a hF
  refine Vp hF (.bool (decide ((s.size : Int) - 1 - (t : Int) < 0))) ?_; clear hF; intro a hF
  replace hF := hF.know (d := 50) (v' := .bool true) (by kernel_rfl) (congrArg Value.bool (decide_eq_true (show (s.size : Int) - 1 - (t : Int) < 0 from (by omega))))
  refine Lo hF ?_; clear hF; intro a hF
  refine Lo hF ?_; clear hF; intro a hF
  refine Lo hF ?_; clear hF; intro a hF
  refine Lo hF ?_; clear hF; intro a hF
  refine Vp hF (.bool true) ?_; clear hF; intro a hF
  refine Vp hF (.bool true) ?_; clear hF; intro a hF
  refine Lo hF ?_; clear hF; intro a hF
  refine Lo hF ?_; clear hF; intro a hF
  refine Lo hF ?_; clear hF; intro a hF
  refine Lo hF ?_; clear hF; intro a hF
  refine Lo hF ?_; clear hF; intro a hF
  refine Lo hF ?_; clear hF; intro a hF
  refine Lo hF ?_; clear hF; intro a hF
  refine Lo hF ?_; clear hF; intro a hF
  refine Lo hF ?_; clear hF; intro a hF
  refine Lo hF ?_; clear hF; intro a hF
  refine Lo hF ?_; clear hF; intro a hF
  refine Lo hF ?_; clear hF; intro a hF
  refine Vp hF (.bool true) ?_; clear hF; intro a hF
  refine Vp hF (.bool true) ?_; clear hF; intro a hF
  refine Lo hF ?_; clear hF; intro a hF
  refine Lo hF ?_; clear hF; intro a hF
  refine Lo hF ?_; clear hF; intro a hF
  refine Vp hF (.bool true) ?_; clear hF; intro a hF
  refine L_nil ?_
  refine hK50 _ _ ?_
  refine cond_t hF (by kernel_rfl) (by kernel_rfl) ?_
  refine wp_seq_k fun K51 hK51 => ?_
  refine wp_region_lit ?_
  refine Vp hF (.agg zPPtsR) ?_; clear hF; intro a hF
  obtain ⟨W34, hst, hO1⟩ := run_storeAt (P := Tryz.prog) (k := 18) (T := 45) (off := 0) (v := .agg zPPtsR) (cs := zPPtsR) (cs' := zPPtsR) hO (by kernel_rfl) (by kernel_rfl) (by kernel_rfl) (Nat.le_of_ble_eq_true (by kernel_rfl)) (by kernel_rfl) (.head _)
  refine L_skip hF (by kernel_rfl) (by kernel_rfl) (x_store (p := .pointer (some ⟨b1, 0, none⟩)) (v := .agg zPPtsR) rfl (by kernel_rfl) (by kernel_rfl) hst) (by kernel_rfl) ?_
  clear hst hF; intro a hF; replace hO := hO1; clear hO1
  refine Vp hF (.bool false) ?_; clear hF; intro a hF
  refine L_nil ?_
  refine hK51 _ _ ?_
  refine wp_ret ?_
  refine then_ret ?_
  refine ret2 hF (v := .agg zPPtsR) (u := .bool false) rfl (resC (ad := ⟨b1, 0, none⟩) (by kernel_rfl) (run_loadA (k := 18) (by kernel_rfl) (by kernel_rfl) (hO.blk List.mem_cons_self) (by kernel_rfl) (by kernel_rfl))) (resT (by kernel_rfl)) (by refine ⟨?_, hO.nil⟩; (rw [pt_none_a hI.2.1 hI.2.2 (by omega)]; rfl)) .ret (.inl rfl)

end Go.Proofs.YthellfigmpjhlaaGreatDoor
