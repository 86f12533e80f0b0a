import Derived.Test.YthellfigmpjhlaaGreatDoorPortsA
namespace Go.Proofs.YthellfigmpjhlaaGreatDoor
open Go Go.RowKit
set_option linter.unusedVariables false
set_option linter.unusedSimpArgs false
abbrev zFPortsW : Array Value := #[.bool false, .int .u8 0, .int .u8 0, .int .u8 0, .int .u8 0, .int .u8 0, .int .u8 0, .int .u8 0, .int .u8 0, .int .u8 0, .int .u8 0, .int .u8 0, .int .u8 0, .int .u8 0, .int .u8 0, .int .u8 0, .int .u8 0]
abbrev zPPortsW : Array Value := #[.bool false, .int .u8 0, .int .u8 0, .int .u8 0, .int .u8 0, .int .u8 0, .int .u8 0, .int .u8 0, .int .u8 0, .int .u8 0, .int .u8 0, .int .u8 0, .int .u8 0, .int .u8 0, .int .u8 0, .int .u8 0, .int .u8 0, .int .i64 0]
set_option maxRecDepth 20000 in
theorem ports_Right (n : Int) (W : World) : Ret Tryz.prog 16 #[.int .i64 (n)] W fun v W' => v = .bool (decide (1 ≤ n ∧ n ≤ 65535)) ∧ Own W noX [] W' := by
 refine enter Tryz.func16 rfl (n := 9) rfl (by kernel_rfl) (E0 := [(0, .int .i64 (n))]) (by kernel_rfl) ?_
 intro a hF; have hO := Own.start W noX
 refine wp_seq_k fun K1 hK1 => ?_
 refine wp_region_lit ?_
 refine Vp hF (.bool false) ?_; clear hF; intro a hF
 refine L_nil ?_
 refine hK1 _ _ ?_
 refine wp_seq_k fun K2 hK2 => ?_
 refine wp_region_lit ?_
 refine Vp hF (.int .i64 (n)) ?_; clear hF; intro a hF
 refine Vp hF (.bool (decide (n ≥ 1))) ?_; clear hF; intro a hF
 refine Vp hF (.bool (decide (n ≥ 1))) ?_; clear hF; intro a hF
 by_cases q1 : n ≥ 1
 ·
  replace hF := hF.know (d := 5) (v' := .bool true) (by kernel_rfl) (congrArg Value.bool (decide_eq_true q1))
  refine Vp hF (.int .i64 (n)) ?_; clear hF; intro a hF
  refine Vp hF (.bool (decide (n ≤ 65535))) ?_; clear hF; intro a hF
  refine Vp hF (.bool (decide (n ≤ 65535))) ?_; clear hF; intro a hF
  refine Vp hF (.bool (decide (n ≤ 65535))) ?_; clear hF; intro a hF
  refine L_nil ?_
  refine hK2 _ _ ?_
  refine wp_ret ?_
  refine ret1 hF (v := .bool (decide (n ≤ 65535))) rfl (resT (by kernel_rfl)) (by refine ⟨?_, hO.nil⟩; exact congrArg Value.bool (by rw [eq_comm]; first | (refine decide_eq_true ?_; omega) | (refine decide_eq_false ?_; omega) | (rw [decide_eq_decide]; omega) | (by_cases h17 : n = 17 <;> simp [*]))) .ret (.inl rfl)
 ·
  replace hF := hF.know (d := 5) (v' := .bool false) (by kernel_rfl) (congrArg Value.bool (decide_eq_false q1))
  refine Lo hF ?_; clear hF; intro a hF
  refine Lo hF ?_; clear hF; intro a hF
  refine Vp hF (.bool false) ?_; clear hF; intro a hF
  refine Vp hF (.bool false) ?_; clear hF; intro a hF
  refine L_nil ?_
  refine hK2 _ _ ?_
  refine wp_ret ?_
  refine ret1 hF (v := .bool false) rfl (resT (by kernel_rfl)) (by refine ⟨?_, hO.nil⟩; exact congrArg Value.bool (by rw [eq_comm]; first | (refine decide_eq_true ?_; omega) | (refine decide_eq_false ?_; omega) | (rw [decide_eq_decide]; omega) | (by_cases h17 : n = 17 <;> simp [*]))) .ret (.inl rfl)

set_option maxRecDepth 20000 in
theorem ref04_Right (n : Int) (W : World) : Ret Tryz.prog 17 #[.int .i64 (n)] W fun v W' => v = .bool (decide (1 ≤ n ∧ n ≤ 65535)) ∧ Own W noX [] W' := by
 refine enter Tryz.func17 rfl (n := 9) rfl (by kernel_rfl) (E0 := [(0, .int .i64 (n))]) (by kernel_rfl) ?_
 intro a hF; have hO := Own.start W noX
 refine wp_seq_k fun K1 hK1 => ?_
 refine wp_region_lit ?_
 refine Vp hF (.bool false) ?_; clear hF; intro a hF
 refine L_nil ?_
 refine hK1 _ _ ?_
 refine wp_seq_k fun K2 hK2 => ?_
 refine wp_region_lit ?_
 refine Vp hF (.int .i64 (n)) ?_; clear hF; intro a hF
 refine Vp hF (.bool (decide (n > 0))) ?_; clear hF; intro a hF
 refine Vp hF (.bool (decide (n > 0))) ?_; clear hF; intro a hF
 by_cases q1 : n > 0
 ·
  replace hF := hF.know (d := 5) (v' := .bool true) (by kernel_rfl) (congrArg Value.bool (decide_eq_true q1))
  refine Vp hF (.int .i64 (n)) ?_; clear hF; intro a hF
  refine Vp hF (.bool (decide (n < 65536))) ?_; clear hF; intro a hF
  refine Vp hF (.bool (decide (n < 65536))) ?_; clear hF; intro a hF
  refine Vp hF (.bool (decide (n < 65536))) ?_; clear hF; intro a hF
  refine L_nil ?_
  refine hK2 _ _ ?_
  refine wp_ret ?_
  refine ret1 hF (v := .bool (decide (n < 65536))) rfl (resT (by kernel_rfl)) (by refine ⟨?_, hO.nil⟩; exact congrArg Value.bool (by rw [eq_comm]; first | (refine decide_eq_true ?_; omega) | (refine decide_eq_false ?_; omega) | (rw [decide_eq_decide]; omega) | (by_cases h17 : n = 17 <;> simp [*]))) .ret (.inl rfl)
 ·
  replace hF := hF.know (d := 5) (v' := .bool false) (by kernel_rfl) (congrArg Value.bool (decide_eq_false q1))
  refine Lo hF ?_; clear hF; intro a hF
  refine Lo hF ?_; clear hF; intro a hF
  refine Vp hF (.bool false) ?_; clear hF; intro a hF
  refine Vp hF (.bool false) ?_; clear hF; intro a hF
  refine L_nil ?_
  refine hK2 _ _ ?_
  refine wp_ret ?_
  refine ret1 hF (v := .bool false) rfl (resT (by kernel_rfl)) (by refine ⟨?_, hO.nil⟩; exact congrArg Value.bool (by rw [eq_comm]; first | (refine decide_eq_true ?_; omega) | (refine decide_eq_false ?_; omega) | (rw [decide_eq_decide]; omega) | (by_cases h17 : n = 17 <;> simp [*]))) .ret (.inl rfl)

set_option maxRecDepth 20000 in
theorem ports_Proto (n : Int) (W : World) : Ret Tryz.prog 18 #[.int .i64 (n)] W fun v W' => v = .bool (decide (n = 6 ∨ n = 17)) ∧ Own W noX [] W' := by
 refine enter Tryz.func18 rfl (n := 9) rfl (by kernel_rfl) (E0 := [(0, .int .i64 (n))]) (by kernel_rfl) ?_
 intro a hF; have hO := Own.start W noX
 refine wp_seq_k fun K1 hK1 => ?_
 refine wp_region_lit ?_
 refine Vp hF (.bool false) ?_; clear hF; intro a hF
 refine L_nil ?_
 refine hK1 _ _ ?_
 refine wp_seq_k fun K2 hK2 => ?_
 refine wp_region_lit ?_
 refine Vp hF (.int .i64 (n)) ?_; clear hF; intro a hF
 refine Vp hF (.bool (n == 6)) ?_; clear hF; intro a hF
 refine Vp hF (.bool (n == 6)) ?_; clear hF; intro a hF
 by_cases q1 : n = 6
 ·
  replace hF := hF.know (d := 5) (v' := .bool true) (by kernel_rfl) (congrArg Value.bool (eqT q1))
  refine Lo hF ?_; clear hF; intro a hF
  refine Lo hF ?_; clear hF; intro a hF
  refine Vp hF (.bool true) ?_; clear hF; intro a hF
  refine Vp hF (.bool true) ?_; clear hF; intro a hF
  refine L_nil ?_
  refine hK2 _ _ ?_
  refine wp_ret ?_
  refine ret1 hF (v := .bool true) rfl (resT (by kernel_rfl)) (by refine ⟨?_, hO.nil⟩; exact congrArg Value.bool (by rw [eq_comm]; first | (refine decide_eq_true ?_; omega) | (refine decide_eq_false ?_; omega) | (rw [decide_eq_decide]; omega) | (by_cases h17 : n = 17 <;> simp [*]))) .ret (.inl rfl)
 ·
  replace hF := hF.know (d := 5) (v' := .bool false) (by kernel_rfl) (congrArg Value.bool (eqF q1))
  refine Vp hF (.int .i64 (n)) ?_; clear hF; intro a hF
  refine Vp hF (.bool (n == 17)) ?_; clear hF; intro a hF
  refine Vp hF (.bool (n == 17)) ?_; clear hF; intro a hF
  refine Vp hF (.bool (n == 17)) ?_; clear hF; intro a hF
  refine L_nil ?_
  refine hK2 _ _ ?_
  refine wp_ret ?_
  refine ret1 hF (v := .bool (n == 17)) rfl (resT (by kernel_rfl)) (by refine ⟨?_, hO.nil⟩; exact congrArg Value.bool (by rw [eq_comm]; first | (refine decide_eq_true ?_; omega) | (refine decide_eq_false ?_; omega) | (rw [decide_eq_decide]; omega) | (by_cases h17 : n = 17 <;> simp [*]))) .ret (.inl rfl)

set_option maxRecDepth 20000 in
theorem ref04_Proto (n : Int) (W : World) : Ret Tryz.prog 19 #[.int .i64 (n)] W fun v W' => v = .bool (decide (n = 6 ∨ n = 17)) ∧ Own W noX [] W' := by
 refine enter Tryz.func19 rfl (n := 9) rfl (by kernel_rfl) (E0 := [(0, .int .i64 (n))]) (by kernel_rfl) ?_
 intro a hF; have hO := Own.start W noX
 refine wp_seq_k fun K1 hK1 => ?_
 refine wp_region_lit ?_
 refine Vp hF (.bool false) ?_; clear hF; intro a hF
 refine L_nil ?_
 refine hK1 _ _ ?_
 refine wp_seq_k fun K2 hK2 => ?_
 refine wp_region_lit ?_
 refine Vp hF (.int .i64 (n)) ?_; clear hF; intro a hF
 refine Vp hF (.bool (n == 6)) ?_; clear hF; intro a hF
 refine Vp hF (.bool (n == 6)) ?_; clear hF; intro a hF
 by_cases q1 : n = 6
 ·
  replace hF := hF.know (d := 5) (v' := .bool true) (by kernel_rfl) (congrArg Value.bool (eqT q1))
  refine Lo hF ?_; clear hF; intro a hF
  refine Lo hF ?_; clear hF; intro a hF
  refine Vp hF (.bool true) ?_; clear hF; intro a hF
  refine Vp hF (.bool true) ?_; clear hF; intro a hF
  refine L_nil ?_
  refine hK2 _ _ ?_
  refine wp_ret ?_
  refine ret1 hF (v := .bool true) rfl (resT (by kernel_rfl)) (by refine ⟨?_, hO.nil⟩; exact congrArg Value.bool (by rw [eq_comm]; first | (refine decide_eq_true ?_; omega) | (refine decide_eq_false ?_; omega) | (rw [decide_eq_decide]; omega) | (by_cases h17 : n = 17 <;> simp [*]))) .ret (.inl rfl)
 ·
  replace hF := hF.know (d := 5) (v' := .bool false) (by kernel_rfl) (congrArg Value.bool (eqF q1))
  refine Vp hF (.int .i64 (n)) ?_; clear hF; intro a hF
  refine Vp hF (.bool (n == 17)) ?_; clear hF; intro a hF
  refine Vp hF (.bool (n == 17)) ?_; clear hF; intro a hF
  refine Vp hF (.bool (n == 17)) ?_; clear hF; intro a hF
  refine L_nil ?_
  refine hK2 _ _ ?_
  refine wp_ret ?_
  refine ret1 hF (v := .bool (n == 17)) rfl (resT (by kernel_rfl)) (by refine ⟨?_, hO.nil⟩; exact congrArg Value.bool (by rw [eq_comm]; first | (refine decide_eq_true ?_; omega) | (refine decide_eq_false ?_; omega) | (rw [decide_eq_decide]; omega) | (by_cases h17 : n = 17 <;> simp [*]))) .ret (.inl rfl)

set_option maxRecDepth 20000 in
theorem ports_Word (n : Int) (W : World) : Ret Tryz.prog 20 #[.int .i64 (n)] W fun v W' => v = .string (if n = 6 then ⟨#[116, 99, 112]⟩ else if n = 17 then ⟨#[117, 100, 112]⟩ else ⟨#[]⟩) ∧ Own W noX [] W' := by
 refine enter Tryz.func20 rfl (n := 8) rfl (by kernel_rfl) (E0 := [(0, .int .i64 (n))]) (by kernel_rfl) ?_
 intro a hF; have hO := Own.start W noX
 refine wp_seq_k fun K1 hK1 => ?_
 refine wp_region_lit ?_
 refine Vp hF (.string (⟨#[]⟩ : ByteArray)) ?_; clear hF; intro a hF
 refine L_nil ?_
 refine hK1 _ _ ?_
 refine wp_seq_k fun K2 hK2 => ?_
 refine wp_seq_k fun K3 hK3 => ?_
 refine wp_region_lit ?_
 refine Vp hF (.int .i64 (n)) ?_; clear hF; intro a hF
 refine L_nil ?_
 refine hK3 _ _ ?_
 refine wp_block ?_
 refine wp_seq_k fun K4 hK4 => ?_
 refine wp_region_lit ?_
 refine Vp hF (.bool (n == 6)) ?_; clear hF; intro a hF
 refine Vp hF (.bool (n == 6)) ?_; clear hF; intro a hF
 refine L_nil ?_
 refine hK4 _ _ ?_
 by_cases q1 : n = 6
 ·
  replace hF := hF.know (d := 4) (v' := .bool true) (by kernel_rfl) (congrArg Value.bool (eqT q1))
  refine cond_t hF (by kernel_rfl) (by kernel_rfl) ?_
  refine wp_seq_k fun K5 hK5 => ?_
  refine wp_region_lit ?_
  refine Vp hF (.string (⟨#[116, 99, 112]⟩ : ByteArray)) ?_; clear hF; intro a hF
  refine L_nil ?_
  refine hK5 _ _ ?_
  refine wp_ret ?_
  refine block_ret ?_
  refine then_ret ?_
  refine ret1 hF (v := .string (⟨#[116, 99, 112]⟩ : ByteArray)) rfl (resT (by kernel_rfl)) (by refine ⟨?_, hO.nil⟩; simp [*]) .ret (.inl rfl)
 ·
  replace hF := hF.know (d := 4) (v' := .bool false) (by kernel_rfl) (congrArg Value.bool (eqF q1))
  refine cond_f hF (by kernel_rfl) (by kernel_rfl) ?_
  refine wp_seq_k fun K6 hK6 => ?_
  refine wp_region_lit ?_
  refine Vp hF (.bool (n == 17)) ?_; clear hF; intro a hF
  refine Vp hF (.bool (n == 17)) ?_; clear hF; intro a hF
  refine L_nil ?_
  refine hK6 _ _ ?_
  by_cases q2 : n = 17
  ·
   replace hF := hF.know (d := 6) (v' := .bool true) (by kernel_rfl) (congrArg Value.bool (eqT q2))
   refine cond_t hF (by kernel_rfl) (by kernel_rfl) ?_
   refine wp_seq_k fun K7 hK7 => ?_
   refine wp_region_lit ?_
   refine Vp hF (.string (⟨#[117, 100, 112]⟩ : ByteArray)) ?_; clear hF; intro a hF
   refine L_nil ?_
   refine hK7 _ _ ?_
   refine wp_ret ?_
   refine block_ret ?_
   refine then_ret ?_
   refine ret1 hF (v := .string (⟨#[117, 100, 112]⟩ : ByteArray)) rfl (resT (by kernel_rfl)) (by refine ⟨?_, hO.nil⟩; simp [*]) .ret (.inl rfl)
  ·
   replace hF := hF.know (d := 6) (v' := .bool false) (by kernel_rfl) (congrArg Value.bool (eqF q2))
   refine cond_f hF (by kernel_rfl) (by kernel_rfl) ?_
   refine wp_skip ?_
   refine block_normal ?_
   refine hK2 _ _ ?_
   refine wp_seq_k fun K8 hK8 => ?_
   refine wp_region_lit ?_
   refine Vp hF (.string (⟨#[]⟩ : ByteArray)) ?_; clear hF; intro a hF
   refine L_nil ?_
   refine hK8 _ _ ?_
   refine wp_ret ?_
   refine ret1 hF (v := .string (⟨#[]⟩ : ByteArray)) rfl (resT (by kernel_rfl)) (by refine ⟨?_, hO.nil⟩; simp [*]) .ret (.inl rfl)

set_option maxRecDepth 20000 in
theorem ports_Named0  (W : World) : Ret Tryz.prog 15 #[.string (⟨#[116, 99, 112]⟩ : ByteArray)] W fun v W' => v = .tuple #[.int .i64 6, .nilIface] ∧ Own W noX [] W' := by
 refine enter Tryz.func15 rfl (n := 10) rfl (by kernel_rfl) (E0 := [(0, .string (⟨#[116, 99, 112]⟩ : ByteArray))]) (by kernel_rfl) ?_
 intro a hF; have hO := Own.start W noX
 refine wp_seq_k fun K1 hK1 => ?_
 refine wp_region_lit ?_
 refine Vp hF (.int .i64 0) ?_; clear hF; intro a hF
 refine Vp hF (.nilIface) ?_; clear hF; intro a hF
 refine L_nil ?_
 refine hK1 _ _ ?_
 refine wp_seq_k fun K2 hK2 => ?_
 refine wp_seq_k fun K3 hK3 => ?_
 refine wp_region_lit ?_
 refine Vp hF (.string (⟨#[116, 99, 112]⟩ : ByteArray)) ?_; clear hF; intro a hF
 refine L_nil ?_
 refine hK3 _ _ ?_
 refine wp_block ?_
 refine wp_seq_k fun K4 hK4 => ?_
 refine wp_region_lit ?_
 refine Vr hF (.bool true) (x_bool (x := strEq (⟨#[116, 99, 112]⟩ : ByteArray) (⟨#[116, 99, 112]⟩ : ByteArray)) (strEq_refl _) (by kernel_rfl)) ?_; clear hF; intro a hF
 refine Vp hF (.bool true) ?_; clear hF; intro a hF
 refine L_nil ?_
 refine hK4 _ _ ?_
 refine cond_t hF (by kernel_rfl) (by kernel_rfl) ?_
 refine wp_seq_k fun K5 hK5 => ?_
 refine wp_region_lit ?_
 refine Vp hF (.int .i64 6) ?_; clear hF; intro a hF
 refine Vp hF (.nilIface) ?_; clear hF; intro a hF
 refine L_nil ?_
 refine hK5 _ _ ?_
 refine wp_ret ?_
 refine block_ret ?_
 refine then_ret ?_
 refine ret2 hF (v := .int .i64 6) (u := .nilIface) rfl (resT (by kernel_rfl)) (resT (by kernel_rfl)) (by refine ⟨?_, hO.nil⟩; first | rfl | (exfalso; simp_all; done) | (simp_all; done)) .ret (.inl rfl)

set_option maxRecDepth 20000 in
theorem ports_Named1  (W : World) : Ret Tryz.prog 15 #[.string (⟨#[117, 100, 112]⟩ : ByteArray)] W fun v W' => v = .tuple #[.int .i64 17, .nilIface] ∧ Own W noX [] W' := by
 refine enter Tryz.func15 rfl (n := 10) rfl (by kernel_rfl) (E0 := [(0, .string (⟨#[117, 100, 112]⟩ : ByteArray))]) (by kernel_rfl) ?_
 intro a hF; have hO := Own.start W noX
 refine wp_seq_k fun K1 hK1 => ?_
 refine wp_region_lit ?_
 refine Vp hF (.int .i64 0) ?_; clear hF; intro a hF
 refine Vp hF (.nilIface) ?_; clear hF; intro a hF
 refine L_nil ?_
 refine hK1 _ _ ?_
 refine wp_seq_k fun K2 hK2 => ?_
 refine wp_seq_k fun K3 hK3 => ?_
 refine wp_region_lit ?_
 refine Vp hF (.string (⟨#[117, 100, 112]⟩ : ByteArray)) ?_; clear hF; intro a hF
 refine L_nil ?_
 refine hK3 _ _ ?_
 refine wp_block ?_
 refine wp_seq_k fun K4 hK4 => ?_
 refine wp_region_lit ?_
 refine Vp hF (.bool false) ?_; clear hF; intro a hF
 refine Vp hF (.bool false) ?_; clear hF; intro a hF
 refine L_nil ?_
 refine hK4 _ _ ?_
 refine cond_f hF (by kernel_rfl) (by kernel_rfl) ?_
 refine wp_seq_k fun K5 hK5 => ?_
 refine wp_region_lit ?_
 refine Vr hF (.bool true) (x_bool (x := strEq (⟨#[117, 100, 112]⟩ : ByteArray) (⟨#[117, 100, 112]⟩ : ByteArray)) (strEq_refl _) (by kernel_rfl)) ?_; clear hF; intro a hF
 refine Vp hF (.bool true) ?_; clear hF; intro a hF
 refine L_nil ?_
 refine hK5 _ _ ?_
 refine cond_t hF (by kernel_rfl) (by kernel_rfl) ?_
 refine wp_seq_k fun K6 hK6 => ?_
 refine wp_region_lit ?_
 refine Vp hF (.int .i64 17) ?_; clear hF; intro a hF
 refine Vp hF (.nilIface) ?_; clear hF; intro a hF
 refine L_nil ?_
 refine hK6 _ _ ?_
 refine wp_ret ?_
 refine block_ret ?_
 refine then_ret ?_
 refine ret2 hF (v := .int .i64 17) (u := .nilIface) rfl (resT (by kernel_rfl)) (resT (by kernel_rfl)) (by refine ⟨?_, hO.nil⟩; first | rfl | (exfalso; simp_all; done) | (simp_all; done)) .ret (.inl rfl)

set_option maxRecDepth 20000 in
theorem ports_Named2 (I : List Nat) (ea : Nat → Addr) (s : ByteArray) (W : World) (hE : Errs I ea W) (h16 : I.contains 16 = true) (h1 : ¬ s = ⟨#[116, 99, 112]⟩) (h2 : ¬ s = ⟨#[117, 100, 112]⟩) : Ret Tryz.prog 15 #[.string s] W fun v W' => v = .tuple #[.int .i64 0, errV ea 16] ∧ Own W noX [] W' := by
 refine enter Tryz.func15 rfl (n := 10) rfl (by kernel_rfl) (E0 := [(0, .string s)]) (by kernel_rfl) ?_
 intro a hF; have hO := Own.start W noX
 refine wp_seq_k fun K1 hK1 => ?_
 refine wp_region_lit ?_
 refine Vp hF (.int .i64 0) ?_; clear hF; intro a hF
 refine Vp hF (.nilIface) ?_; clear hF; intro a hF
 refine L_nil ?_
 refine hK1 _ _ ?_
 refine wp_seq_k fun K2 hK2 => ?_
 refine wp_seq_k fun K3 hK3 => ?_
 refine wp_region_lit ?_
 refine Vp hF (.string s) ?_; clear hF; intro a hF
 refine L_nil ?_
 refine hK3 _ _ ?_
 refine wp_block ?_
 refine wp_seq_k fun K4 hK4 => ?_
 refine wp_region_lit ?_
 refine Vp hF (.bool (strEq s (⟨#[116, 99, 112]⟩ : ByteArray))) ?_; clear hF; intro a hF
 refine Vp hF (.bool (strEq s (⟨#[116, 99, 112]⟩ : ByteArray))) ?_; clear hF; intro a hF
 refine L_nil ?_
 refine hK4 _ _ ?_
 by_cases q1 : s = (⟨#[116, 99, 112]⟩ : ByteArray)
 ·
  replace hF := hF.know (d := 5) (v' := .bool true) (by kernel_rfl) (congrArg Value.bool (strEq_iff.2 q1))
  refine cond_t hF (by kernel_rfl) (by kernel_rfl) ?_
  refine wp_seq_k fun K5 hK5 => ?_
  refine wp_region_lit ?_
  refine Vp hF (.int .i64 6) ?_; clear hF; intro a hF
  refine Vp hF (.nilIface) ?_; clear hF; intro a hF
  refine L_nil ?_
  refine hK5 _ _ ?_
  refine wp_ret ?_
  refine block_ret ?_
  refine then_ret ?_
  refine ret2 hF (v := .int .i64 6) (u := .nilIface) rfl (resT (by kernel_rfl)) (resT (by kernel_rfl)) (by refine ⟨?_, hO.nil⟩; first | rfl | (exfalso; simp_all; done) | (simp_all; done)) .ret (.inl rfl)
 ·
  replace hF := hF.know (d := 5) (v' := .bool false) (by kernel_rfl) (congrArg Value.bool (strEq_false.2 q1))
  refine cond_f hF (by kernel_rfl) (by kernel_rfl) ?_
  refine wp_seq_k fun K6 hK6 => ?_
  refine wp_region_lit ?_
  refine Vp hF (.bool (strEq s (⟨#[117, 100, 112]⟩ : ByteArray))) ?_; clear hF; intro a hF
  refine Vp hF (.bool (strEq s (⟨#[117, 100, 112]⟩ : ByteArray))) ?_; clear hF; intro a hF
  refine L_nil ?_
  refine hK6 _ _ ?_
  by_cases q2 : s = (⟨#[117, 100, 112]⟩ : ByteArray)
  ·
   replace hF := hF.know (d := 7) (v' := .bool true) (by kernel_rfl) (congrArg Value.bool (strEq_iff.2 q2))
   refine cond_t hF (by kernel_rfl) (by kernel_rfl) ?_
   refine wp_seq_k fun K7 hK7 => ?_
   refine wp_region_lit ?_
   refine Vp hF (.int .i64 17) ?_; clear hF; intro a hF
   refine Vp hF (.nilIface) ?_; clear hF; intro a hF
   refine L_nil ?_
   refine hK7 _ _ ?_
   refine wp_ret ?_
   refine block_ret ?_
   refine then_ret ?_
   refine ret2 hF (v := .int .i64 17) (u := .nilIface) rfl (resT (by kernel_rfl)) (resT (by kernel_rfl)) (by refine ⟨?_, hO.nil⟩; first | rfl | (exfalso; simp_all; done) | (simp_all; done)) .ret (.inl rfl)
  ·
   replace hF := hF.know (d := 7) (v' := .bool false) (by kernel_rfl) (congrArg Value.bool (strEq_false.2 q2))
   refine cond_f hF (by kernel_rfl) (by kernel_rfl) ?_
   refine wp_skip ?_
   refine block_normal ?_
   refine hK2 _ _ ?_
   refine wp_seq_k fun K8 hK8 => ?_
   refine A_start (fun Wx => Own W noX [] Wx) (by kernel_rfl) ?_
   replace hO := hO.drewN 1
   generalize hWd : ({ W with drawn := W.drawn + 1 } : World) = W_d at hO ⊢; clear hWd
   have hS := hO.sub (List.nil_sublist _)
   refine Tk 0 rfl hF (errV ea 16) (fun Wx hO => x_load (p := .pointer (some ⟨0, 0, none⟩)) rfl (by kernel_rfl) (hE.load hO 16 0 h16 (by kernel_rfl))) hS ?_; clear hF; intro a hF
   refine Tk 1 rfl hF (.int .i64 0) (fun Wx _ => by kernel_rfl) hS ?_; clear hF; intro a hF
   refine Tk 2 rfl hF (errV ea 16) (fun Wx _ => by kernel_rfl) hS ?_; clear hF; intro a hF
   refine A_done (by kernel_rfl) ?_
   refine hK8 _ _ ?_
   refine wp_ret ?_
   refine ret2 hF (v := .int .i64 0) (u := errV ea 16) rfl (resT (by kernel_rfl)) (resT (by kernel_rfl)) (by refine ⟨?_, hO.nil⟩; first | rfl | (exfalso; simp_all; done) | (simp_all; done)) .ret (.inl rfl)

set_option maxRecDepth 20000 in
theorem ports_number (s : ByteArray) (W : World) (hG : LibW W) (hs : s.size ≤ 1000000) : Ret Tryz.prog 112 #[.string s] W fun v W' => v = .int .i64 (numP s) ∧ Own W noX [] W' := by
 refine enter Tryz.func112 rfl (n := 24) rfl (by kernel_rfl) (E0 := [(0, .string s)]) (by kernel_rfl) ?_
 intro a hF; have hO := Own.start W noX
 refine wp_seq_k fun K1 hK1 => ?_
 refine wp_region_lit ?_
 refine Vp hF (.int .i64 0) ?_; clear hF; intro a hF
 refine L_nil ?_
 refine hK1 _ _ ?_
 refine wp_seq_k fun K2 hK2 => ?_
 refine wp_region_lit ?_
 refine Vp hF (.string s) ?_; clear hF; intro a hF
 refine Lc hF (atoi_ret s W (hG.own hO) (by omega)) ?_
 clear hF; rintro _ W1 a ⟨te1, pe1, rfl, hk⟩ hF
 replace hO := hO.call0 hk; clear hk
 refine Vp hF (.tuple #[.int .i64 ((atoiN s)), (if atoiOk s then .nilIface else .iface te1 pe1)]) ?_; clear hF; intro a hF
 refine Vp hF (.int .i64 ((atoiN s))) ?_; clear hF; intro a hF
 refine Vp hF ((if atoiOk s then .nilIface else .iface te1 pe1)) ?_; clear hF; intro a hF
 refine Vp hF (.int .i64 ((atoiN s))) ?_; clear hF; intro a hF
 refine Vp hF ((if atoiOk s then .nilIface else .iface te1 pe1)) ?_; clear hF; intro a hF
 refine L_nil ?_
 refine hK2 _ _ ?_
 refine wp_seq_k fun K3 hK3 => ?_
 refine wp_seq_k fun K4 hK4 => ?_
 refine wp_region_lit ?_
 refine Vp hF ((if atoiOk s then .nilIface else .iface te1 pe1)) ?_; clear hF; intro a hF
 refine Vr hF (.bool (!(atoiOk s))) (x_errNe (b := atoiOk s) (te := te1) (pe := pe1) rfl (by kernel_rfl) (by kernel_rfl) (by kernel_rfl) (by kernel_rfl)) ?_; clear hF; intro a hF
 refine Vp hF (.bool (!(atoiOk s))) ?_; clear hF; intro a hF
 cases q1 : (atoiOk s : Bool)
 ·
  replace hF := hF.know (d := 12) (v' := .bool true) (by kernel_rfl) (congrArg Value.bool (notT q1))
  refine Lo hF ?_; clear hF; intro a hF
  refine Lo hF ?_; clear hF; intro a hF
  refine Lo hF ?_; clear hF; intro a hF
  refine Vp hF (.bool true) ?_; clear hF; intro a hF
  refine Vp hF (.bool true) ?_; clear hF; intro a hF
  refine Lo hF ?_; clear hF; intro a hF
  refine Lo hF ?_; clear hF; intro a hF
  refine Lo hF ?_; clear hF; intro a hF
  refine Lo hF ?_; clear hF; intro a hF
  refine Vp hF (.bool true) ?_; clear hF; intro a hF
  refine L_nil ?_
  refine hK4 _ _ ?_
  refine cond_t hF (by kernel_rfl) (by kernel_rfl) ?_
  refine wp_seq_k fun K5 hK5 => ?_
  refine wp_region_lit ?_
  refine Vp hF (.int .i64 0) ?_; clear hF; intro a hF
  refine L_nil ?_
  refine hK5 _ _ ?_
  refine wp_ret ?_
  refine then_ret ?_
  refine ret1 hF (v := .int .i64 0) rfl (resT (by kernel_rfl)) (by refine ⟨?_, hO.nil⟩; first | exact congrArg (Value.int _) (numP_yes (by assumption) (by first | assumption | exact Decidable.of_not_not (by assumption)) (by first | assumption | exact Decidable.of_not_not (by assumption))) | exact congrArg (Value.int _) (numP_no (.inl (by assumption))) | exact congrArg (Value.int _) (numP_no (.inr (.inl (by assumption)))) | exact congrArg (Value.int _) (numP_no (.inr (.inr (by assumption))))) .ret (.inl rfl)
 ·
  replace hF := hF.know (d := 12) (v' := .bool false) (by kernel_rfl) (congrArg Value.bool (notF q1))
  refine Vp hF (.int .i64 ((atoiN s))) ?_; clear hF; intro a hF
  refine Lc hF (ports_Right (atoiN s) W1) ?_
  clear hF; rintro _ W2 a ⟨rfl, hk⟩ hF
  replace hO := hO.call0 hk; clear hk
  refine Vp hF (.bool (!(decide (1 ≤ (atoiN s) ∧ (atoiN s) ≤ 65535)))) ?_; clear hF; intro a hF
  refine Vp hF (.bool (!(decide (1 ≤ (atoiN s) ∧ (atoiN s) ≤ 65535)))) ?_; clear hF; intro a hF
  refine Vp hF (.bool (!(decide (1 ≤ (atoiN s) ∧ (atoiN s) ≤ 65535)))) ?_; clear hF; intro a hF
  by_cases q2 : 1 ≤ (atoiN s) ∧ (atoiN s) ≤ 65535
  ·
   replace hF := hF.know (d := 17) (v' := .bool false) (by kernel_rfl) (congrArg Value.bool (notF (decide_eq_true (Decidable.of_not_not (not_not_intro q2)))))
   refine Vp hF (.int .i64 ((atoiN s))) ?_; clear hF; intro a hF
   refine Lc hF (itoa_ret (atoiN s) W2 (hG.own hO) (by omega) (by omega)) ?_
   clear hF; rintro _ W3 a ⟨rfl, hk⟩ hF
   replace hO := hO.call0 hk; clear hk
   refine Vp hF (.string s) ?_; clear hF; intro a hF
   refine Vp hF (.bool (!(strEq (⟨(Lib.itoa (atoiN s)).toArray⟩ : ByteArray) s))) ?_; clear hF; intro a hF
   refine Vp hF (.bool (!(strEq (⟨(Lib.itoa (atoiN s)).toArray⟩ : ByteArray) s))) ?_; clear hF; intro a hF
   refine L_nil ?_
   refine hK4 _ _ ?_
   by_cases q3 : (⟨(Lib.itoa (atoiN s)).toArray⟩ : ByteArray) = s
   ·
    replace hF := hF.know (d := 22) (v' := .bool false) (by kernel_rfl) (congrArg Value.bool (notF (strEq_iff.2 (Decidable.of_not_not (not_not_intro q3)))))
    refine cond_f hF (by kernel_rfl) (by kernel_rfl) ?_
    refine wp_skip ?_
    refine hK3 _ _ ?_
    refine wp_seq_k fun K6 hK6 => ?_
    refine wp_region_lit ?_
    refine Vp hF (.int .i64 ((atoiN s))) ?_; clear hF; intro a hF
    refine Vp hF (.int .i64 ((atoiN s))) ?_; clear hF; intro a hF
    refine L_nil ?_
    refine hK6 _ _ ?_
    refine wp_ret ?_
    refine ret1 hF (v := .int .i64 ((atoiN s))) rfl (resT (by kernel_rfl)) (by refine ⟨?_, hO.nil⟩; first | exact congrArg (Value.int _) (numP_yes (by assumption) (by first | assumption | exact Decidable.of_not_not (by assumption)) (by first | assumption | exact Decidable.of_not_not (by assumption))) | exact congrArg (Value.int _) (numP_no (.inl (by assumption))) | exact congrArg (Value.int _) (numP_no (.inr (.inl (by assumption)))) | exact congrArg (Value.int _) (numP_no (.inr (.inr (by assumption))))) .ret (.inl rfl)
   ·
    replace hF := hF.know (d := 22) (v' := .bool true) (by kernel_rfl) (congrArg Value.bool (notT (strEq_false.2 q3)))
    refine cond_t hF (by kernel_rfl) (by kernel_rfl) ?_
    refine wp_seq_k fun K7 hK7 => ?_
    refine wp_region_lit ?_
    refine Vp hF (.int .i64 0) ?_; clear hF; intro a hF
    refine L_nil ?_
    refine hK7 _ _ ?_
    refine wp_ret ?_
    refine then_ret ?_
    refine ret1 hF (v := .int .i64 0) rfl (resT (by kernel_rfl)) (by refine ⟨?_, hO.nil⟩; first | exact congrArg (Value.int _) (numP_yes (by assumption) (by first | assumption | exact Decidable.of_not_not (by assumption)) (by first | assumption | exact Decidable.of_not_not (by assumption))) | exact congrArg (Value.int _) (numP_no (.inl (by assumption))) | exact congrArg (Value.int _) (numP_no (.inr (.inl (by assumption)))) | exact congrArg (Value.int _) (numP_no (.inr (.inr (by assumption))))) .ret (.inl rfl)
  ·
   replace hF := hF.know (d := 17) (v' := .bool true) (by kernel_rfl) (congrArg Value.bool (notT (decide_eq_false q2)))
   refine Lo hF ?_; clear hF; intro a hF
   refine Lo hF ?_; clear hF; intro a hF
   refine Lo hF ?_; clear hF; intro a hF
   refine Lo hF ?_; clear hF; intro a hF
   refine Vp hF (.bool true) ?_; clear hF; intro a hF
   refine L_nil ?_
   refine hK4 _ _ ?_
   refine cond_t hF (by kernel_rfl) (by kernel_rfl) ?_
   refine wp_seq_k fun K8 hK8 => ?_
   refine wp_region_lit ?_
   refine Vp hF (.int .i64 0) ?_; clear hF; intro a hF
   refine L_nil ?_
   refine hK8 _ _ ?_
   refine wp_ret ?_
   refine then_ret ?_
   refine ret1 hF (v := .int .i64 0) rfl (resT (by kernel_rfl)) (by refine ⟨?_, hO.nil⟩; first | exact congrArg (Value.int _) (numP_yes (by assumption) (by first | assumption | exact Decidable.of_not_not (by assumption)) (by first | assumption | exact Decidable.of_not_not (by assumption))) | exact congrArg (Value.int _) (numP_no (.inl (by assumption))) | exact congrArg (Value.int _) (numP_no (.inr (.inl (by assumption)))) | exact congrArg (Value.int _) (numP_no (.inr (.inr (by assumption))))) .ret (.inl rfl)

set_option maxRecDepth 20000 in
theorem ports_bare (s : ByteArray) (W : World) (hs : s.size ≤ 1000000) : Ret Tryz.prog 113 #[.string s] W fun v W' => v = .tuple #[.string (bareS s), .bool (bareOk s)] ∧ Own W noX [] W' := by
 refine enter Tryz.func113 rfl (n := 26) rfl (by kernel_rfl) (E0 := [(0, .string s)]) (by kernel_rfl) ?_
 intro a hF; have hO := Own.start W noX
 refine wp_seq_k fun K1 hK1 => ?_
 refine wp_region_lit ?_
 refine Vp hF (.string (⟨#[]⟩ : ByteArray)) ?_; clear hF; intro a hF
 refine Vp hF (.bool false) ?_; clear hF; intro a hF
 refine L_nil ?_
 refine hK1 _ _ ?_
 refine wp_seq_k fun K2 hK2 => ?_
 refine wp_seq_k fun K3 hK3 => ?_
 refine wp_region_lit ?_
 refine Vp hF (.string s) ?_; clear hF; intro a hF
 refine Lc hF (contains_ret s W) ?_
 clear hF; rintro _ W1 a ⟨rfl, hk⟩ hF
 replace hO := hO.call0 hk; clear hk
 refine Vp hF (.bool (!(hasC s))) ?_; clear hF; intro a hF
 refine L_nil ?_
 refine hK3 _ _ ?_
 cases q1 : (hasC s : Bool)
 ·
  replace hF := hF.know (d := 9) (v' := .bool true) (by kernel_rfl) (congrArg Value.bool (notT q1))
  refine cond_t hF (by kernel_rfl) (by kernel_rfl) ?_
  refine wp_seq_k fun K4 hK4 => ?_
  refine wp_region_lit ?_
  refine Vp hF (.string s) ?_; clear hF; intro a hF
  refine Vp hF (.string s) ?_; clear hF; intro a hF
  refine Vp hF (.bool true) ?_; clear hF; intro a hF
  refine L_nil ?_
  refine hK4 _ _ ?_
  refine wp_ret ?_
  refine then_ret ?_
  refine ret2 hF (v := .string s) (u := .bool true) rfl (resT (by kernel_rfl)) (resT (by kernel_rfl)) (by refine ⟨?_, hO.nil⟩; unfold bareS bareOk; simp [*]) .ret (.inl rfl)
 ·
  replace hF := hF.know (d := 9) (v' := .bool false) (by kernel_rfl) (congrArg Value.bool (notF q1))
  refine cond_f hF (by kernel_rfl) (by kernel_rfl) ?_
  refine wp_skip ?_
  refine hK2 _ _ ?_
  refine wp_seq_k fun K5 hK5 => ?_
  refine wp_region_lit ?_
  refine Vp hF (.string s) ?_; clear hF; intro a hF
  refine Lc hF (cutPrefix_ret s W1) ?_
  clear hF; rintro _ W2 a ⟨rfl, hk⟩ hF
  replace hO := hO.call0 hk; clear hk
  refine Vp hF (.tuple #[.string (bareA s), .bool (Lib.hasPrefix s.data.toList [91])]) ?_; clear hF; intro a hF
  refine Vp hF (.string (bareA s)) ?_; clear hF; intro a hF
  refine Vp hF (.bool (Lib.hasPrefix s.data.toList [91])) ?_; clear hF; intro a hF
  refine Vp hF (.string (bareA s)) ?_; clear hF; intro a hF
  refine Vp hF (.bool (Lib.hasPrefix s.data.toList [91])) ?_; clear hF; intro a hF
  refine L_nil ?_
  refine hK5 _ _ ?_
  refine wp_seq_k fun K6 hK6 => ?_
  refine wp_region_lit ?_
  refine Vp hF (.string (bareA s)) ?_; clear hF; intro a hF
  refine Lc hF (cutSuffix_ret (bareA s) W2 (by have := bareA_size s; omega)) ?_
  clear hF; rintro _ W3 a ⟨rfl, hk⟩ hF
  replace hO := hO.call0 hk; clear hk
  refine Vp hF (.tuple #[.string (⟨(Lib.trimSuffix (bareA s).data.toList [93]).toArray⟩ : ByteArray), .bool (Lib.hasSuffix (bareA s).data.toList [93])]) ?_; clear hF; intro a hF
  refine Vp hF (.string (⟨(Lib.trimSuffix (bareA s).data.toList [93]).toArray⟩ : ByteArray)) ?_; clear hF; intro a hF
  refine Vp hF (.bool (Lib.hasSuffix (bareA s).data.toList [93])) ?_; clear hF; intro a hF
  refine Vp hF (.string (⟨(Lib.trimSuffix (bareA s).data.toList [93]).toArray⟩ : ByteArray)) ?_; clear hF; intro a hF
  refine Vp hF (.bool (Lib.hasSuffix (bareA s).data.toList [93])) ?_; clear hF; intro a hF
  refine L_nil ?_
  refine hK6 _ _ ?_
  refine wp_seq_k fun K7 hK7 => ?_
  refine wp_region_lit ?_
  refine Vp hF (.string (⟨(Lib.trimSuffix (bareA s).data.toList [93]).toArray⟩ : ByteArray)) ?_; clear hF; intro a hF
  refine Vp hF (.bool (Lib.hasPrefix s.data.toList [91])) ?_; clear hF; intro a hF
  refine Vp hF (.bool (Lib.hasPrefix s.data.toList [91])) ?_; clear hF; intro a hF
  cases q2 : (Lib.hasPrefix s.data.toList [91] : Bool)
  ·
   replace hF := hF.know (d := 23) (v' := .bool false) (by kernel_rfl) (congrArg Value.bool q2)
   refine Lo hF ?_; clear hF; intro a hF
   refine Vp hF (.bool false) ?_; clear hF; intro a hF
   refine Vp hF (.string (⟨(Lib.trimSuffix (bareA s).data.toList [93]).toArray⟩ : ByteArray)) ?_; clear hF; intro a hF
   refine Vp hF (.bool false) ?_; clear hF; intro a hF
   refine L_nil ?_
   refine hK7 _ _ ?_
   refine wp_ret ?_
   refine ret2 hF (v := .string (⟨(Lib.trimSuffix (bareA s).data.toList [93]).toArray⟩ : ByteArray)) (u := .bool false) rfl (resT (by kernel_rfl)) (resT (by kernel_rfl)) (by refine ⟨?_, hO.nil⟩; unfold bareS bareOk; simp [*]) .ret (.inl rfl)
  ·
   replace hF := hF.know (d := 23) (v' := .bool true) (by kernel_rfl) (congrArg Value.bool q2)
   refine Vp hF (.bool (Lib.hasSuffix (bareA s).data.toList [93])) ?_; clear hF; intro a hF
   refine Vp hF (.bool (Lib.hasSuffix (bareA s).data.toList [93])) ?_; clear hF; intro a hF
   refine Vp hF (.string (⟨(Lib.trimSuffix (bareA s).data.toList [93]).toArray⟩ : ByteArray)) ?_; clear hF; intro a hF
   refine Vp hF (.bool (Lib.hasSuffix (bareA s).data.toList [93])) ?_; clear hF; intro a hF
   refine L_nil ?_
   refine hK7 _ _ ?_
   refine wp_ret ?_
   refine ret2 hF (v := .string (⟨(Lib.trimSuffix (bareA s).data.toList [93]).toArray⟩ : ByteArray)) (u := .bool (Lib.hasSuffix (bareA s).data.toList [93])) rfl (resT (by kernel_rfl)) (resT (by kernel_rfl)) (by refine ⟨?_, hO.nil⟩; unfold bareS bareOk; simp [*]) .ret (.inl rfl)

set_option maxRecDepth 20000 in
theorem ports_Parse_s (I : List Nat) (ea : Nat → Addr) (s : ByteArray) (x0 : Ip) (W : World) (hG : LibW W) (hE : Errs I ea W) (h3 : I.contains 3 = true) (hs : s.size ≤ 1000000) (hp : parseIp (bareS (ptHead s)) = some x0) : Ret Tryz.prog 66 #[.string s] W fun v W' => v = retPt ea (parsePt s) ∧ Own W noX [] W' := by
 have hlb := lastC_bd s
 refine enter Tryz.func66 rfl (n := 48) rfl (by kernel_rfl) (E0 := [(0, .string s)]) (by kernel_rfl) ?_
 intro a hF; have hO := Own.start W noX
 refine wp_seq_k fun K1 hK1 => ?_
 refine wp_region_lit ?_
 refine L_new hF hO (by kernel_rfl) (by kernel_rfl) (vf := fun b => .pointer (some ⟨b, 0, none⟩)) (ob := .cells zPPortsW 45) (by kernel_rfl) (by kernel_rfl) ?_
 clear hF hO; intro b1 W1 a hO hF
 refine Vp hF (.nilIface) ?_; clear hF; intro a hF
 refine L_nil ?_
 refine hK1 _ _ ?_
 refine wp_seq_k fun K2 hK2 => ?_
 refine wp_region_lit ?_
 refine Vp hF (.string s) ?_; clear hF; intro a hF
 refine Lc hF (lastIndex_ret s W1 (by omega)) ?_
 clear hF; rintro _ W2 a ⟨rfl, hk⟩ hF
 replace hO := hO.call0 hk; clear hk
 refine Vp hF (.int .i64 ((lastC s))) ?_; clear hF; intro a hF
 refine L_nil ?_
 refine hK2 _ _ ?_
 refine wp_seq_k fun K3 hK3 => ?_
 refine wp_seq_k fun K4 hK4 => ?_
 refine wp_region_lit ?_
 refine Vp hF (.int .i64 ((lastC s))) ?_; clear hF; intro a hF
 refine Vp hF (.bool (decide ((lastC s) < 0))) ?_; clear hF; intro a hF
 refine L_nil ?_
 refine hK4 _ _ ?_
 by_cases q1 : (lastC s) < 0
 ·
  replace hF := hF.know (d := 13) (v' := .bool true) (by kernel_rfl) (congrArg Value.bool (decide_eq_true q1))
  refine cond_t hF (by kernel_rfl) (by kernel_rfl) ?_
  refine wp_seq_k fun K5 hK5 => ?_
  refine A_start (fun Wx => Own W noX [] Wx) (by kernel_rfl) ?_
  replace hO := hO.drewN 1
  generalize hWd : ({ W2 with drawn := W2.drawn + 1 } : World) = W2_d at hO ⊢; clear hWd
  have hS := hO.sub (List.nil_sublist _)
  refine Tk 0 rfl hF (.agg zPPortsW) (fun Wx _ => by kernel_rfl) hS ?_; clear hF; intro a hF
  refine Tk 1 rfl hF (errV ea 3) (fun Wx hO => x_load (p := .pointer (some ⟨4, 0, none⟩)) rfl (by kernel_rfl) (hE.load hO 3 4 h3 (by kernel_rfl))) hS ?_; clear hF; intro a hF
  refine A_one (i := 2) (listed' := #[true, true, true, false]) (by kernel_rfl) rfl (by kernel_rfl) ?_
  obtain ⟨W3, hst, hO1⟩ := run_storeAt (P := Tryz.prog) (k := 18) (T := 45) (off := 0) (v := .agg zPPortsW) (cs := zPPortsW) (cs' := zPPortsW) hO (by kernel_rfl) (by kernel_rfl) (by kernel_rfl) (Nat.le_of_ble_eq_true (by kernel_rfl)) (by kernel_rfl) (.head _)
  refine OpK.skip hF (by kernel_rfl) (by kernel_rfl) (x_store (p := .pointer (some ⟨b1, 0, none⟩)) (v := .agg zPPortsW) rfl (by kernel_rfl) (by kernel_rfl) hst) (by kernel_rfl) ?_
  clear hst hF; intro a hF; replace hO := hO1; clear hO1
  refine ⟨hO.sub (List.nil_sublist _), ?_⟩
  have hS := hO.sub (List.nil_sublist _)
  refine Tk 3 rfl hF (errV ea 3) (fun Wx _ => by kernel_rfl) hS ?_; clear hF; intro a hF
  refine A_done (by kernel_rfl) ?_
  refine hK5 _ _ ?_
  refine wp_ret ?_
  refine then_ret ?_
  refine ret2 hF (v := .agg zPPortsW) (u := errV ea 3) rfl (resC (ad := ⟨b1, 0, none⟩) (by kernel_rfl) (run_loadA (k := 18) (by kernel_rfl) (by kernel_rfl) (hO.blk List.mem_cons_self) (by kernel_rfl) (by kernel_rfl))) (resT (by kernel_rfl)) (by refine ⟨?_, hO.nil⟩; (rw [parsePt_neg (by assumption)]; rfl)) .ret (.inl rfl)
 ·
  replace hF := hF.know (d := 13) (v' := .bool false) (by kernel_rfl) (congrArg Value.bool (decide_eq_false q1))
  refine cond_f hF (by kernel_rfl) (by kernel_rfl) ?_
  refine wp_skip ?_
  refine hK3 _ _ ?_
  refine wp_seq_k fun K6 hK6 => ?_
  refine wp_region_lit ?_
  refine Vp hF (.string s) ?_; clear hF; intro a hF
  refine Vp hF (.int .i64 ((lastC s))) ?_; clear hF; intro a hF
  refine Vr hF (.int .i64 ((lastC s) + 1)) (x_int (x := IntKind.i64.wrap ((lastC s) + 1)) (i64In (by omega) (by omega)) (by kernel_rfl)) ?_; clear hF; intro a hF
  refine Vr hF (.string (s.extract (((lastC s) + 1).toNat) s.size)) (x_slStrL (s := s) (k := .i64) (i := (lastC s) + 1) rfl (by kernel_rfl) (by kernel_rfl) (by kernel_rfl) (by omega) (by omega)) ?_; clear hF; intro a hF
  refine Lc hF (ports_number (ptNum s) W2 (hG.own hO) (by unfold ptNum; rw [ByteArray.size_extract]; omega)) ?_
  clear hF; rintro _ W4 a ⟨rfl, hk⟩ hF
  replace hO := hO.call0 hk; clear hk
  refine Vp hF (.int .i64 ((numP (ptNum s)))) ?_; clear hF; intro a hF
  refine L_nil ?_
  refine hK6 _ _ ?_
  refine wp_seq_k fun K7 hK7 => ?_
  refine wp_region_lit ?_
  refine Vp hF (.string s) ?_; clear hF; intro a hF
  refine Vp hF (.int .i64 ((lastC s))) ?_; clear hF; intro a hF
  refine Vr hF (.string (s.extract 0 ((lastC s).toNat))) (x_slStrH (s := s) (k' := .i64) (j := (lastC s)) rfl (by kernel_rfl) (by kernel_rfl) (by kernel_rfl) (by omega) (by omega)) ?_; clear hF; intro a hF
  refine Lc hF (ports_bare (ptHead s) W4 (by unfold ptHead; rw [ByteArray.size_extract]; omega)) ?_
  clear hF; rintro _ W5 a ⟨rfl, hk⟩ hF
  replace hO := hO.call0 hk; clear hk
  refine Vp hF (.tuple #[.string (bareS (ptHead s)), .bool (bareOk (ptHead s))]) ?_; clear hF; intro a hF
  refine Vp hF (.string (bareS (ptHead s))) ?_; clear hF; intro a hF
  refine Vp hF (.bool (bareOk (ptHead s))) ?_; clear hF; intro a hF
  refine Vp hF (.string (bareS (ptHead s))) ?_; clear hF; intro a hF
  refine Vp hF (.bool (bareOk (ptHead s))) ?_; clear hF; intro a hF
  refine L_nil ?_
  refine hK7 _ _ ?_
  refine wp_seq_k fun K8 hK8 => ?_
  refine wp_region_lit ?_
  refine Vp hF (.string (bareS (ptHead s))) ?_; clear hF; intro a hF
  refine Lc hF ((addr_Parse I ea (bareS (ptHead s)) W5 (hG.own hO) (hE.own hO) h3 (by have := bareS_size (ptHead s); have h2 : (ptHead s).size ≤ s.size := (by unfold ptHead; rw [ByteArray.size_extract]; omega); omega)).mono fun v W' h => (⟨by rw [h.1, hp]; rfl, h.2⟩ : v = .tuple #[ipV x0, .nilIface] ∧ Own W5 noX [] W')) ?_
  clear hF; rintro _ W6 a ⟨rfl, hk⟩ hF
  replace hO := hO.call0 hk; clear hk
  refine Vp hF (.tuple #[ipV x0, .nilIface]) ?_; clear hF; intro a hF
  refine Vp hF (ipV x0) ?_; clear hF; intro a hF
  refine Vp hF (.nilIface) ?_; clear hF; intro a hF
  refine L_new hF hO (by kernel_rfl) (by kernel_rfl) (vf := fun b => .pointer (some ⟨b, 0, none⟩)) (ob := .cells zFPortsW 33) (by kernel_rfl) (by kernel_rfl) ?_
  clear hF hO; intro b2 W7 a hO hF
  obtain ⟨W8, hst, hO1⟩ := run_storeAt (P := Tryz.prog) (k := 17) (T := 33) (off := 0) (v := ipV x0) (cs := zFPortsW) (cs' := (ipL x0).toArray) hO (by kernel_rfl) (by kernel_rfl) (by kernel_rfl) (Nat.le_of_ble_eq_true (by kernel_rfl)) (by kernel_rfl) (.head _)
  refine L_skip hF (by kernel_rfl) (by kernel_rfl) (x_store (p := .pointer (some ⟨b2, 0, none⟩)) (v := ipV x0) rfl (by kernel_rfl) (by kernel_rfl) hst) (by kernel_rfl) ?_
  clear hst hF; intro a hF; replace hO := hO1; clear hO1
  refine Vp hF (.nilIface) ?_; clear hF; intro a hF
  refine L_nil ?_
  refine hK8 _ _ ?_
  refine wp_seq_k fun K9 hK9 => ?_
  refine wp_seq_k fun K10 hK10 => ?_
  refine wp_region_lit ?_
  refine Vp hF (.int .i64 ((numP (ptNum s)))) ?_; clear hF; intro a hF
  refine Vp hF (.bool ((numP (ptNum s)) == 0)) ?_; clear hF; intro a hF
  refine Vp hF (.bool ((numP (ptNum s)) == 0)) ?_; clear hF; intro a hF
  by_cases q2 : (numP (ptNum s)) = 0
  ·
   replace hF := hF.know (d := 35) (v' := .bool true) (by kernel_rfl) (congrArg Value.bool (eqT q2))
   refine Lo hF ?_; clear hF; intro a hF
   refine Lo hF ?_; clear hF; intro a hF
   refine Vp hF (.bool true) ?_; clear hF; intro a hF
   refine Vp hF (.bool true) ?_; clear hF; intro a hF
   refine Lo hF ?_; clear hF; intro a hF
   refine Lo hF ?_; clear hF; intro a hF
   refine Vp hF (.bool true) ?_; clear hF; intro a hF
   refine L_nil ?_
   refine hK10 _ _ ?_
   refine cond_t hF (by kernel_rfl) (by kernel_rfl) ?_
   refine wp_seq_k fun K11 hK11 => ?_
   refine A_start (fun Wx => Own W noX [.blk b2 (.cells (ipL x0).toArray 33 (0, 0))] Wx) (by kernel_rfl) ?_
   replace hO := hO.drewN 1
   generalize hWd : ({ W8 with drawn := W8.drawn + 1 } : World) = W8_d at hO ⊢; clear hWd
   have hS := hO.sub (.cons_cons _ (List.nil_sublist _))
   refine Tk 0 rfl hF (.agg zPPortsW) (fun Wx _ => by kernel_rfl) hS ?_; clear hF; intro a hF
   refine Tk 1 rfl hF (errV ea 3) (fun Wx hO => x_load (p := .pointer (some ⟨4, 0, none⟩)) rfl (by kernel_rfl) (hE.load hO 3 4 h3 (by kernel_rfl))) hS ?_; clear hF; intro a hF
   refine A_one (i := 2) (listed' := #[true, true, true, false]) (by kernel_rfl) rfl (by kernel_rfl) ?_
   obtain ⟨W9, hst, hO1⟩ := run_storeAt (P := Tryz.prog) (k := 18) (T := 45) (off := 0) (v := .agg zPPortsW) (cs := zPPortsW) (cs' := zPPortsW) hO (by kernel_rfl) (by kernel_rfl) (by kernel_rfl) (Nat.le_of_ble_eq_true (by kernel_rfl)) (by kernel_rfl) (.tail (.head _))
   refine OpK.skip hF (by kernel_rfl) (by kernel_rfl) (x_store (p := .pointer (some ⟨b1, 0, none⟩)) (v := .agg zPPortsW) rfl (by kernel_rfl) (by kernel_rfl) hst) (by kernel_rfl) ?_
   clear hst hF; intro a hF; replace hO := hO1; clear hO1
   refine ⟨hO.sub (.cons_cons _ (List.nil_sublist _)), ?_⟩
   have hS := hO.sub (.cons_cons _ (List.nil_sublist _))
   refine Tk 3 rfl hF (errV ea 3) (fun Wx _ => by kernel_rfl) hS ?_; clear hF; intro a hF
   refine A_done (by kernel_rfl) ?_
   refine hK11 _ _ ?_
   refine wp_ret ?_
   refine then_ret ?_
   refine ret2 hF (v := .agg zPPortsW) (u := errV ea 3) rfl (resC (ad := ⟨b1, 0, none⟩) (by kernel_rfl) (run_loadA (k := 18) (by kernel_rfl) (by kernel_rfl) (hO.blk (List.mem_cons_of_mem _ List.mem_cons_self)) (by kernel_rfl) (by kernel_rfl))) (resT (by kernel_rfl)) (by refine ⟨?_, hO.nil⟩; (rw [parsePt_bad (by assumption) hp (.inl (by assumption))]; rfl)) .ret (.inl rfl)
  ·
   replace hF := hF.know (d := 35) (v' := .bool false) (by kernel_rfl) (congrArg Value.bool (eqF q2))
   refine Vp hF (.bool (bareOk (ptHead s))) ?_; clear hF; intro a hF
   refine Vp hF (.bool (!(bareOk (ptHead s)))) ?_; clear hF; intro a hF
   refine Vp hF (.bool (!(bareOk (ptHead s)))) ?_; clear hF; intro a hF
   refine Vp hF (.bool (!(bareOk (ptHead s)))) ?_; clear hF; intro a hF
   cases q3 : (bareOk (ptHead s) : Bool)
   ·
    replace hF := hF.know (d := 39) (v' := .bool true) (by kernel_rfl) (congrArg Value.bool (notT q3))
    refine Lo hF ?_; clear hF; intro a hF
    refine Lo hF ?_; clear hF; intro a hF
    refine Vp hF (.bool true) ?_; clear hF; intro a hF
    refine L_nil ?_
    refine hK10 _ _ ?_
    refine cond_t hF (by kernel_rfl) (by kernel_rfl) ?_
    refine wp_seq_k fun K12 hK12 => ?_
    refine A_start (fun Wx => Own W noX [.blk b2 (.cells (ipL x0).toArray 33 (0, 0))] Wx) (by kernel_rfl) ?_
    replace hO := hO.drewN 1
    generalize hWd : ({ W8 with drawn := W8.drawn + 1 } : World) = W8_d at hO ⊢; clear hWd
    have hS := hO.sub (.cons_cons _ (List.nil_sublist _))
    refine Tk 0 rfl hF (.agg zPPortsW) (fun Wx _ => by kernel_rfl) hS ?_; clear hF; intro a hF
    refine Tk 1 rfl hF (errV ea 3) (fun Wx hO => x_load (p := .pointer (some ⟨4, 0, none⟩)) rfl (by kernel_rfl) (hE.load hO 3 4 h3 (by kernel_rfl))) hS ?_; clear hF; intro a hF
    refine A_one (i := 2) (listed' := #[true, true, true, false]) (by kernel_rfl) rfl (by kernel_rfl) ?_
    obtain ⟨W10, hst, hO1⟩ := run_storeAt (P := Tryz.prog) (k := 18) (T := 45) (off := 0) (v := .agg zPPortsW) (cs := zPPortsW) (cs' := zPPortsW) hO (by kernel_rfl) (by kernel_rfl) (by kernel_rfl) (Nat.le_of_ble_eq_true (by kernel_rfl)) (by kernel_rfl) (.tail (.head _))
    refine OpK.skip hF (by kernel_rfl) (by kernel_rfl) (x_store (p := .pointer (some ⟨b1, 0, none⟩)) (v := .agg zPPortsW) rfl (by kernel_rfl) (by kernel_rfl) hst) (by kernel_rfl) ?_
    clear hst hF; intro a hF; replace hO := hO1; clear hO1
    refine ⟨hO.sub (.cons_cons _ (List.nil_sublist _)), ?_⟩
    have hS := hO.sub (.cons_cons _ (List.nil_sublist _))
    refine Tk 3 rfl hF (errV ea 3) (fun Wx _ => by kernel_rfl) hS ?_; clear hF; intro a hF
    refine A_done (by kernel_rfl) ?_
    refine hK12 _ _ ?_
    refine wp_ret ?_
    refine then_ret ?_
    refine ret2 hF (v := .agg zPPortsW) (u := errV ea 3) rfl (resC (ad := ⟨b1, 0, none⟩) (by kernel_rfl) (run_loadA (k := 18) (by kernel_rfl) (by kernel_rfl) (hO.blk (List.mem_cons_of_mem _ List.mem_cons_self)) (by kernel_rfl) (by kernel_rfl))) (resT (by kernel_rfl)) (by refine ⟨?_, hO.nil⟩; (rw [parsePt_bad (by assumption) hp (.inr (by assumption))]; rfl)) .ret (.inl rfl)
   ·
    replace hF := hF.know (d := 39) (v' := .bool false) (by kernel_rfl) (congrArg Value.bool (notF q3))
    refine Vp hF (.nilIface) ?_; clear hF; intro a hF
    refine Vp hF (.bool false) ?_; clear hF; intro a hF
    refine Vp hF (.bool false) ?_; clear hF; intro a hF
    refine L_nil ?_
    refine hK10 _ _ ?_
    refine cond_f hF (by kernel_rfl) (by kernel_rfl) ?_
    refine wp_skip ?_
    refine hK9 _ _ ?_
    refine wp_seq_k fun K13 hK13 => ?_
    refine wp_region_lit ?_
    refine Vr hF (ipV x0) (x_load (p := .pointer (some ⟨b2, 0, none⟩)) rfl (by kernel_rfl) (run_loadA (k := 17) (by kernel_rfl) (by kernel_rfl) (hO.blk List.mem_cons_self) (by kernel_rfl) (by kernel_rfl))) ?_; clear hF; intro a hF
    refine Vp hF (.int .i64 ((numP (ptNum s)))) ?_; clear hF; intro a hF
    refine Vp hF (.agg #[.bool x0.six, .int .u8 ((x0.b0.toNat : Int)), .int .u8 ((x0.b1.toNat : Int)), .int .u8 ((x0.b2.toNat : Int)), .int .u8 ((x0.b3.toNat : Int)), .int .u8 ((x0.b4.toNat : Int)), .int .u8 ((x0.b5.toNat : Int)), .int .u8 ((x0.b6.toNat : Int)), .int .u8 ((x0.b7.toNat : Int)), .int .u8 ((x0.b8.toNat : Int)), .int .u8 ((x0.b9.toNat : Int)), .int .u8 ((x0.b10.toNat : Int)), .int .u8 ((x0.b11.toNat : Int)), .int .u8 ((x0.b12.toNat : Int)), .int .u8 ((x0.b13.toNat : Int)), .int .u8 ((x0.b14.toNat : Int)), .int .u8 ((x0.b15.toNat : Int)), .int .i64 ((numP (ptNum s)))]) ?_; clear hF; intro a hF
    obtain ⟨W11, hst, hO1⟩ := run_storeAt (P := Tryz.prog) (k := 18) (T := 45) (off := 0) (v := .agg #[.bool x0.six, .int .u8 ((x0.b0.toNat : Int)), .int .u8 ((x0.b1.toNat : Int)), .int .u8 ((x0.b2.toNat : Int)), .int .u8 ((x0.b3.toNat : Int)), .int .u8 ((x0.b4.toNat : Int)), .int .u8 ((x0.b5.toNat : Int)), .int .u8 ((x0.b6.toNat : Int)), .int .u8 ((x0.b7.toNat : Int)), .int .u8 ((x0.b8.toNat : Int)), .int .u8 ((x0.b9.toNat : Int)), .int .u8 ((x0.b10.toNat : Int)), .int .u8 ((x0.b11.toNat : Int)), .int .u8 ((x0.b12.toNat : Int)), .int .u8 ((x0.b13.toNat : Int)), .int .u8 ((x0.b14.toNat : Int)), .int .u8 ((x0.b15.toNat : Int)), .int .i64 ((numP (ptNum s)))]) (cs := zPPortsW) (cs' := #[.bool x0.six, .int .u8 ((x0.b0.toNat : Int)), .int .u8 ((x0.b1.toNat : Int)), .int .u8 ((x0.b2.toNat : Int)), .int .u8 ((x0.b3.toNat : Int)), .int .u8 ((x0.b4.toNat : Int)), .int .u8 ((x0.b5.toNat : Int)), .int .u8 ((x0.b6.toNat : Int)), .int .u8 ((x0.b7.toNat : Int)), .int .u8 ((x0.b8.toNat : Int)), .int .u8 ((x0.b9.toNat : Int)), .int .u8 ((x0.b10.toNat : Int)), .int .u8 ((x0.b11.toNat : Int)), .int .u8 ((x0.b12.toNat : Int)), .int .u8 ((x0.b13.toNat : Int)), .int .u8 ((x0.b14.toNat : Int)), .int .u8 ((x0.b15.toNat : Int)), .int .i64 ((numP (ptNum s)))]) hO (by kernel_rfl) (by kernel_rfl) (by kernel_rfl) (Nat.le_of_ble_eq_true (by kernel_rfl)) (by kernel_rfl) (.tail (.head _))
    refine L_skip hF (by kernel_rfl) (by kernel_rfl) (x_store (p := .pointer (some ⟨b1, 0, none⟩)) (v := .agg #[.bool x0.six, .int .u8 ((x0.b0.toNat : Int)), .int .u8 ((x0.b1.toNat : Int)), .int .u8 ((x0.b2.toNat : Int)), .int .u8 ((x0.b3.toNat : Int)), .int .u8 ((x0.b4.toNat : Int)), .int .u8 ((x0.b5.toNat : Int)), .int .u8 ((x0.b6.toNat : Int)), .int .u8 ((x0.b7.toNat : Int)), .int .u8 ((x0.b8.toNat : Int)), .int .u8 ((x0.b9.toNat : Int)), .int .u8 ((x0.b10.toNat : Int)), .int .u8 ((x0.b11.toNat : Int)), .int .u8 ((x0.b12.toNat : Int)), .int .u8 ((x0.b13.toNat : Int)), .int .u8 ((x0.b14.toNat : Int)), .int .u8 ((x0.b15.toNat : Int)), .int .i64 ((numP (ptNum s)))]) rfl (by kernel_rfl) (by kernel_rfl) hst) (by kernel_rfl) ?_
    clear hst hF; intro a hF; replace hO := hO1; clear hO1
    refine Vp hF (.nilIface) ?_; clear hF; intro a hF
    refine L_nil ?_
    refine hK13 _ _ ?_
    refine wp_ret ?_
    refine ret2 hF (v := .agg #[.bool x0.six, .int .u8 ((x0.b0.toNat : Int)), .int .u8 ((x0.b1.toNat : Int)), .int .u8 ((x0.b2.toNat : Int)), .int .u8 ((x0.b3.toNat : Int)), .int .u8 ((x0.b4.toNat : Int)), .int .u8 ((x0.b5.toNat : Int)), .int .u8 ((x0.b6.toNat : Int)), .int .u8 ((x0.b7.toNat : Int)), .int .u8 ((x0.b8.toNat : Int)), .int .u8 ((x0.b9.toNat : Int)), .int .u8 ((x0.b10.toNat : Int)), .int .u8 ((x0.b11.toNat : Int)), .int .u8 ((x0.b12.toNat : Int)), .int .u8 ((x0.b13.toNat : Int)), .int .u8 ((x0.b14.toNat : Int)), .int .u8 ((x0.b15.toNat : Int)), .int .i64 ((numP (ptNum s)))]) (u := .nilIface) rfl (resC (ad := ⟨b1, 0, none⟩) (by kernel_rfl) (run_loadA (k := 18) (by kernel_rfl) (by kernel_rfl) (hO.blk (List.mem_cons_of_mem _ List.mem_cons_self)) (by kernel_rfl) (by kernel_rfl))) (resT (by kernel_rfl)) (by refine ⟨?_, hO.nil⟩; (exact congrArg (retPt ea) (parsePt_good (by assumption) hp (by assumption) (by assumption)).symm)) .ret (.inl rfl)

set_option maxRecDepth 20000 in
theorem ports_Parse_n (I : List Nat) (ea : Nat → Addr) (s : ByteArray) (W : World) (hG : LibW W) (hE : Errs I ea W) (h3 : I.contains 3 = true) (hs : s.size ≤ 1000000) (hp : parseIp (bareS (ptHead s)) = none) : Ret Tryz.prog 66 #[.string s] W fun v W' => v = retPt ea (parsePt s) ∧ Own W noX [] W' := by
 have hlb := lastC_bd s
 refine enter Tryz.func66 rfl (n := 48) rfl (by kernel_rfl) (E0 := [(0, .string s)]) (by kernel_rfl) ?_
 intro a hF; have hO := Own.start W noX
 refine wp_seq_k fun K1 hK1 => ?_
 refine wp_region_lit ?_
 refine L_new hF hO (by kernel_rfl) (by kernel_rfl) (vf := fun b => .pointer (some ⟨b, 0, none⟩)) (ob := .cells zPPortsW 45) (by kernel_rfl) (by kernel_rfl) ?_
 clear hF hO; intro b1 W1 a hO hF
 refine Vp hF (.nilIface) ?_; clear hF; intro a hF
 refine L_nil ?_
 refine hK1 _ _ ?_
 refine wp_seq_k fun K2 hK2 => ?_
 refine wp_region_lit ?_
 refine Vp hF (.string s) ?_; clear hF; intro a hF
 refine Lc hF (lastIndex_ret s W1 (by omega)) ?_
 clear hF; rintro _ W2 a ⟨rfl, hk⟩ hF
 replace hO := hO.call0 hk; clear hk
 refine Vp hF (.int .i64 ((lastC s))) ?_; clear hF; intro a hF
 refine L_nil ?_
 refine hK2 _ _ ?_
 refine wp_seq_k fun K3 hK3 => ?_
 refine wp_seq_k fun K4 hK4 => ?_
 refine wp_region_lit ?_
 refine Vp hF (.int .i64 ((lastC s))) ?_; clear hF; intro a hF
 refine Vp hF (.bool (decide ((lastC s) < 0))) ?_; clear hF; intro a hF
 refine L_nil ?_
 refine hK4 _ _ ?_
 by_cases q1 : (lastC s) < 0
 ·
  replace hF := hF.know (d := 13) (v' := .bool true) (by kernel_rfl) (congrArg Value.bool (decide_eq_true q1))
  refine cond_t hF (by kernel_rfl) (by kernel_rfl) ?_
  refine wp_seq_k fun K5 hK5 => ?_
  refine A_start (fun Wx => Own W noX [] Wx) (by kernel_rfl) ?_
  replace hO := hO.drewN 1
  generalize hWd : ({ W2 with drawn := W2.drawn + 1 } : World) = W2_d at hO ⊢; clear hWd
  have hS := hO.sub (List.nil_sublist _)
  refine Tk 0 rfl hF (.agg zPPortsW) (fun Wx _ => by kernel_rfl) hS ?_; clear hF; intro a hF
  refine Tk 1 rfl hF (errV ea 3) (fun Wx hO => x_load (p := .pointer (some ⟨4, 0, none⟩)) rfl (by kernel_rfl) (hE.load hO 3 4 h3 (by kernel_rfl))) hS ?_; clear hF; intro a hF
  refine A_one (i := 2) (listed' := #[true, true, true, false]) (by kernel_rfl) rfl (by kernel_rfl) ?_
  obtain ⟨W3, hst, hO1⟩ := run_storeAt (P := Tryz.prog) (k := 18) (T := 45) (off := 0) (v := .agg zPPortsW) (cs := zPPortsW) (cs' := zPPortsW) hO (by kernel_rfl) (by kernel_rfl) (by kernel_rfl) (Nat.le_of_ble_eq_true (by kernel_rfl)) (by kernel_rfl) (.head _)
  refine OpK.skip hF (by kernel_rfl) (by kernel_rfl) (x_store (p := .pointer (some ⟨b1, 0, none⟩)) (v := .agg zPPortsW) rfl (by kernel_rfl) (by kernel_rfl) hst) (by kernel_rfl) ?_
  clear hst hF; intro a hF; replace hO := hO1; clear hO1
  refine ⟨hO.sub (List.nil_sublist _), ?_⟩
  have hS := hO.sub (List.nil_sublist _)
  refine Tk 3 rfl hF (errV ea 3) (fun Wx _ => by kernel_rfl) hS ?_; clear hF; intro a hF
  refine A_done (by kernel_rfl) ?_
  refine hK5 _ _ ?_
  refine wp_ret ?_
  refine then_ret ?_
  refine ret2 hF (v := .agg zPPortsW) (u := errV ea 3) rfl (resC (ad := ⟨b1, 0, none⟩) (by kernel_rfl) (run_loadA (k := 18) (by kernel_rfl) (by kernel_rfl) (hO.blk List.mem_cons_self) (by kernel_rfl) (by kernel_rfl))) (resT (by kernel_rfl)) (by refine ⟨?_, hO.nil⟩; first | (rw [parsePt_neg (by assumption)]; rfl) | (rw [parsePt_not (by assumption) hp]; rfl)) .ret (.inl rfl)
 ·
  replace hF := hF.know (d := 13) (v' := .bool false) (by kernel_rfl) (congrArg Value.bool (decide_eq_false q1))
  refine cond_f hF (by kernel_rfl) (by kernel_rfl) ?_
  refine wp_skip ?_
  refine hK3 _ _ ?_
  refine wp_seq_k fun K6 hK6 => ?_
  refine wp_region_lit ?_
  refine Vp hF (.string s) ?_; clear hF; intro a hF
  refine Vp hF (.int .i64 ((lastC s))) ?_; clear hF; intro a hF
  refine Vr hF (.int .i64 ((lastC s) + 1)) (x_int (x := IntKind.i64.wrap ((lastC s) + 1)) (i64In (by omega) (by omega)) (by kernel_rfl)) ?_; clear hF; intro a hF
  refine Vr hF (.string (s.extract (((lastC s) + 1).toNat) s.size)) (x_slStrL (s := s) (k := .i64) (i := (lastC s) + 1) rfl (by kernel_rfl) (by kernel_rfl) (by kernel_rfl) (by omega) (by omega)) ?_; clear hF; intro a hF
  refine Lc hF (ports_number (ptNum s) W2 (hG.own hO) (by unfold ptNum; rw [ByteArray.size_extract]; omega)) ?_
  clear hF; rintro _ W4 a ⟨rfl, hk⟩ hF
  replace hO := hO.call0 hk; clear hk
  refine Vp hF (.int .i64 ((numP (ptNum s)))) ?_; clear hF; intro a hF
  refine L_nil ?_
  refine hK6 _ _ ?_
  refine wp_seq_k fun K7 hK7 => ?_
  refine wp_region_lit ?_
  refine Vp hF (.string s) ?_; clear hF; intro a hF
  refine Vp hF (.int .i64 ((lastC s))) ?_; clear hF; intro a hF
  refine Vr hF (.string (s.extract 0 ((lastC s).toNat))) (x_slStrH (s := s) (k' := .i64) (j := (lastC s)) rfl (by kernel_rfl) (by kernel_rfl) (by kernel_rfl) (by omega) (by omega)) ?_; clear hF; intro a hF
  refine Lc hF (ports_bare (ptHead s) W4 (by unfold ptHead; rw [ByteArray.size_extract]; omega)) ?_
  clear hF; rintro _ W5 a ⟨rfl, hk⟩ hF
  replace hO := hO.call0 hk; clear hk
  refine Vp hF (.tuple #[.string (bareS (ptHead s)), .bool (bareOk (ptHead s))]) ?_; clear hF; intro a hF
  refine Vp hF (.string (bareS (ptHead s))) ?_; clear hF; intro a hF
  refine Vp hF (.bool (bareOk (ptHead s))) ?_; clear hF; intro a hF
  refine Vp hF (.string (bareS (ptHead s))) ?_; clear hF; intro a hF
  refine Vp hF (.bool (bareOk (ptHead s))) ?_; clear hF; intro a hF
  refine L_nil ?_
  refine hK7 _ _ ?_
  refine wp_seq_k fun K8 hK8 => ?_
  refine wp_region_lit ?_
  refine Vp hF (.string (bareS (ptHead s))) ?_; clear hF; intro a hF
  refine Lc hF ((addr_Parse I ea (bareS (ptHead s)) W5 (hG.own hO) (hE.own hO) h3 (by have := bareS_size (ptHead s); have h2 : (ptHead s).size ≤ s.size := (by unfold ptHead; rw [ByteArray.size_extract]; omega); omega)).mono fun v W' h => (⟨by rw [h.1, hp]; rfl, h.2⟩ : v = .tuple #[ipV noIp, errV ea 3] ∧ Own W5 noX [] W')) ?_
  clear hF; rintro _ W6 a ⟨rfl, hk⟩ hF
  replace hO := hO.call0 hk; clear hk
  refine Vp hF (.tuple #[ipV noIp, errV ea 3]) ?_; clear hF; intro a hF
  refine Vp hF (ipV noIp) ?_; clear hF; intro a hF
  refine Vp hF (errV ea 3) ?_; clear hF; intro a hF
  refine L_new hF hO (by kernel_rfl) (by kernel_rfl) (vf := fun b => .pointer (some ⟨b, 0, none⟩)) (ob := .cells zFPortsW 33) (by kernel_rfl) (by kernel_rfl) ?_
  clear hF hO; intro b2 W7 a hO hF
  obtain ⟨W8, hst, hO1⟩ := run_storeAt (P := Tryz.prog) (k := 17) (T := 33) (off := 0) (v := ipV noIp) (cs := zFPortsW) (cs' := (ipL noIp).toArray) hO (by kernel_rfl) (by kernel_rfl) (by kernel_rfl) (Nat.le_of_ble_eq_true (by kernel_rfl)) (by kernel_rfl) (.head _)
  refine L_skip hF (by kernel_rfl) (by kernel_rfl) (x_store (p := .pointer (some ⟨b2, 0, none⟩)) (v := ipV noIp) rfl (by kernel_rfl) (by kernel_rfl) hst) (by kernel_rfl) ?_
  clear hst hF; intro a hF; replace hO := hO1; clear hO1
  refine Vp hF (errV ea 3) ?_; clear hF; intro a hF
  refine L_nil ?_
  refine hK8 _ _ ?_
  refine wp_seq_k fun K9 hK9 => ?_
  refine wp_seq_k fun K10 hK10 => ?_
  refine wp_region_lit ?_
  refine Vp hF (.int .i64 ((numP (ptNum s)))) ?_; clear hF; intro a hF
  refine Vp hF (.bool ((numP (ptNum s)) == 0)) ?_; clear hF; intro a hF
  refine Vp hF (.bool ((numP (ptNum s)) == 0)) ?_; clear hF; intro a hF
  by_cases q2 : (numP (ptNum s)) = 0
  ·
   replace hF := hF.know (d := 35) (v' := .bool true) (by kernel_rfl) (congrArg Value.bool (eqT q2))
   refine Lo hF ?_; clear hF; intro a hF
   refine Lo hF ?_; clear hF; intro a hF
   refine Vp hF (.bool true) ?_; clear hF; intro a hF
   refine Vp hF (.bool true) ?_; clear hF; intro a hF
   refine Lo hF ?_; clear hF; intro a hF
   refine Lo hF ?_; clear hF; intro a hF
   refine Vp hF (.bool true) ?_; clear hF; intro a hF
   refine L_nil ?_
   refine hK10 _ _ ?_
   refine cond_t hF (by kernel_rfl) (by kernel_rfl) ?_
   refine wp_seq_k fun K11 hK11 => ?_
   refine A_start (fun Wx => Own W noX [.blk b2 (.cells (ipL noIp).toArray 33 (0, 0))] Wx) (by kernel_rfl) ?_
   replace hO := hO.drewN 1
   generalize hWd : ({ W8 with drawn := W8.drawn + 1 } : World) = W8_d at hO ⊢; clear hWd
   have hS := hO.sub (.cons_cons _ (List.nil_sublist _))
   refine Tk 0 rfl hF (.agg zPPortsW) (fun Wx _ => by kernel_rfl) hS ?_; clear hF; intro a hF
   refine Tk 1 rfl hF (errV ea 3) (fun Wx hO => x_load (p := .pointer (some ⟨4, 0, none⟩)) rfl (by kernel_rfl) (hE.load hO 3 4 h3 (by kernel_rfl))) hS ?_; clear hF; intro a hF
   refine A_one (i := 2) (listed' := #[true, true, true, false]) (by kernel_rfl) rfl (by kernel_rfl) ?_
   obtain ⟨W9, hst, hO1⟩ := run_storeAt (P := Tryz.prog) (k := 18) (T := 45) (off := 0) (v := .agg zPPortsW) (cs := zPPortsW) (cs' := zPPortsW) hO (by kernel_rfl) (by kernel_rfl) (by kernel_rfl) (Nat.le_of_ble_eq_true (by kernel_rfl)) (by kernel_rfl) (.tail (.head _))
   refine OpK.skip hF (by kernel_rfl) (by kernel_rfl) (x_store (p := .pointer (some ⟨b1, 0, none⟩)) (v := .agg zPPortsW) rfl (by kernel_rfl) (by kernel_rfl) hst) (by kernel_rfl) ?_
   clear hst hF; intro a hF; replace hO := hO1; clear hO1
   refine ⟨hO.sub (.cons_cons _ (List.nil_sublist _)), ?_⟩
   have hS := hO.sub (.cons_cons _ (List.nil_sublist _))
   refine Tk 3 rfl hF (errV ea 3) (fun Wx _ => by kernel_rfl) hS ?_; clear hF; intro a hF
   refine A_done (by kernel_rfl) ?_
   refine hK11 _ _ ?_
   refine wp_ret ?_
   refine then_ret ?_
   refine ret2 hF (v := .agg zPPortsW) (u := errV ea 3) rfl (resC (ad := ⟨b1, 0, none⟩) (by kernel_rfl) (run_loadA (k := 18) (by kernel_rfl) (by kernel_rfl) (hO.blk (List.mem_cons_of_mem _ List.mem_cons_self)) (by kernel_rfl) (by kernel_rfl))) (resT (by kernel_rfl)) (by refine ⟨?_, hO.nil⟩; first | (rw [parsePt_neg (by assumption)]; rfl) | (rw [parsePt_not (by assumption) hp]; rfl)) .ret (.inl rfl)
  ·
   replace hF := hF.know (d := 35) (v' := .bool false) (by kernel_rfl) (congrArg Value.bool (eqF q2))
   refine Vp hF (.bool (bareOk (ptHead s))) ?_; clear hF; intro a hF
   refine Vp hF (.bool (!(bareOk (ptHead s)))) ?_; clear hF; intro a hF
   refine Vp hF (.bool (!(bareOk (ptHead s)))) ?_; clear hF; intro a hF
   refine Vp hF (.bool (!(bareOk (ptHead s)))) ?_; clear hF; intro a hF
   cases q3 : (bareOk (ptHead s) : Bool)
   ·
    replace hF := hF.know (d := 39) (v' := .bool true) (by kernel_rfl) (congrArg Value.bool (notT q3))
    refine Lo hF ?_; clear hF; intro a hF
    refine Lo hF ?_; clear hF; intro a hF
    refine Vp hF (.bool true) ?_; clear hF; intro a hF
    refine L_nil ?_
    refine hK10 _ _ ?_
    refine cond_t hF (by kernel_rfl) (by kernel_rfl) ?_
    refine wp_seq_k fun K12 hK12 => ?_
    refine A_start (fun Wx => Own W noX [.blk b2 (.cells (ipL noIp).toArray 33 (0, 0))] Wx) (by kernel_rfl) ?_
    replace hO := hO.drewN 1
    generalize hWd : ({ W8 with drawn := W8.drawn + 1 } : World) = W8_d at hO ⊢; clear hWd
    have hS := hO.sub (.cons_cons _ (List.nil_sublist _))
    refine Tk 0 rfl hF (.agg zPPortsW) (fun Wx _ => by kernel_rfl) hS ?_; clear hF; intro a hF
    refine Tk 1 rfl hF (errV ea 3) (fun Wx hO => x_load (p := .pointer (some ⟨4, 0, none⟩)) rfl (by kernel_rfl) (hE.load hO 3 4 h3 (by kernel_rfl))) hS ?_; clear hF; intro a hF
    refine A_one (i := 2) (listed' := #[true, true, true, false]) (by kernel_rfl) rfl (by kernel_rfl) ?_
    obtain ⟨W10, hst, hO1⟩ := run_storeAt (P := Tryz.prog) (k := 18) (T := 45) (off := 0) (v := .agg zPPortsW) (cs := zPPortsW) (cs' := zPPortsW) hO (by kernel_rfl) (by kernel_rfl) (by kernel_rfl) (Nat.le_of_ble_eq_true (by kernel_rfl)) (by kernel_rfl) (.tail (.head _))
    refine OpK.skip hF (by kernel_rfl) (by kernel_rfl) (x_store (p := .pointer (some ⟨b1, 0, none⟩)) (v := .agg zPPortsW) rfl (by kernel_rfl) (by kernel_rfl) hst) (by kernel_rfl) ?_
    clear hst hF; intro a hF; replace hO := hO1; clear hO1
    refine ⟨hO.sub (.cons_cons _ (List.nil_sublist _)), ?_⟩
    have hS := hO.sub (.cons_cons _ (List.nil_sublist _))
    refine Tk 3 rfl hF (errV ea 3) (fun Wx _ => by kernel_rfl) hS ?_; clear hF; intro a hF
    refine A_done (by kernel_rfl) ?_
    refine hK12 _ _ ?_
    refine wp_ret ?_
    refine then_ret ?_
    refine ret2 hF (v := .agg zPPortsW) (u := errV ea 3) rfl (resC (ad := ⟨b1, 0, none⟩) (by kernel_rfl) (run_loadA (k := 18) (by kernel_rfl) (by kernel_rfl) (hO.blk (List.mem_cons_of_mem _ List.mem_cons_self)) (by kernel_rfl) (by kernel_rfl))) (resT (by kernel_rfl)) (by refine ⟨?_, hO.nil⟩; first | (rw [parsePt_neg (by assumption)]; rfl) | (rw [parsePt_not (by assumption) hp]; rfl)) .ret (.inl rfl)
   ·
    replace hF := hF.know (d := 39) (v' := .bool false) (by kernel_rfl) (congrArg Value.bool (notF q3))
    refine Vp hF (errV ea 3) ?_; clear hF; intro a hF
    refine Vp hF (.bool true) ?_; clear hF; intro a hF
    refine Vp hF (.bool true) ?_; clear hF; intro a hF
    refine L_nil ?_
    refine hK10 _ _ ?_
    refine cond_t hF (by kernel_rfl) (by kernel_rfl) ?_
    refine wp_seq_k fun K13 hK13 => ?_
    refine A_start (fun Wx => Own W noX [.blk b2 (.cells (ipL noIp).toArray 33 (0, 0))] Wx) (by kernel_rfl) ?_
    replace hO := hO.drewN 1
    generalize hWd : ({ W8 with drawn := W8.drawn + 1 } : World) = W8_d at hO ⊢; clear hWd
    have hS := hO.sub (.cons_cons _ (List.nil_sublist _))
    refine Tk 0 rfl hF (.agg zPPortsW) (fun Wx _ => by kernel_rfl) hS ?_; clear hF; intro a hF
    refine Tk 1 rfl hF (errV ea 3) (fun Wx hO => x_load (p := .pointer (some ⟨4, 0, none⟩)) rfl (by kernel_rfl) (hE.load hO 3 4 h3 (by kernel_rfl))) hS ?_; clear hF; intro a hF
    refine A_one (i := 2) (listed' := #[true, true, true, false]) (by kernel_rfl) rfl (by kernel_rfl) ?_
    obtain ⟨W11, hst, hO1⟩ := run_storeAt (P := Tryz.prog) (k := 18) (T := 45) (off := 0) (v := .agg zPPortsW) (cs := zPPortsW) (cs' := zPPortsW) hO (by kernel_rfl) (by kernel_rfl) (by kernel_rfl) (Nat.le_of_ble_eq_true (by kernel_rfl)) (by kernel_rfl) (.tail (.head _))
    refine OpK.skip hF (by kernel_rfl) (by kernel_rfl) (x_store (p := .pointer (some ⟨b1, 0, none⟩)) (v := .agg zPPortsW) rfl (by kernel_rfl) (by kernel_rfl) hst) (by kernel_rfl) ?_
    clear hst hF; intro a hF; replace hO := hO1; clear hO1
    refine ⟨hO.sub (.cons_cons _ (List.nil_sublist _)), ?_⟩
    have hS := hO.sub (.cons_cons _ (List.nil_sublist _))
    refine Tk 3 rfl hF (errV ea 3) (fun Wx _ => by kernel_rfl) hS ?_; clear hF; intro a hF
    refine A_done (by kernel_rfl) ?_
    refine hK13 _ _ ?_
    refine wp_ret ?_
    refine then_ret ?_
    refine ret2 hF (v := .agg zPPortsW) (u := errV ea 3) rfl (resC (ad := ⟨b1, 0, none⟩) (by kernel_rfl) (run_loadA (k := 18) (by kernel_rfl) (by kernel_rfl) (hO.blk (List.mem_cons_of_mem _ List.mem_cons_self)) (by kernel_rfl) (by kernel_rfl))) (resT (by kernel_rfl)) (by refine ⟨?_, hO.nil⟩; first | (rw [parsePt_neg (by assumption)]; rfl) | (rw [parsePt_not (by assumption) hp]; rfl)) .ret (.inl rfl)

theorem ports_Parse (I : List Nat) (ea : Nat → Addr) (s : ByteArray) (W : World) (hG : LibW W) (hE : Errs I ea W) (h3 : I.contains 3 = true) (hs : s.size ≤ 1000000) : Ret Tryz.prog 66 #[.string s] W fun v W' => v = retPt ea (parsePt s) ∧ Own W noX [] W' := by
  cases hp : parseIp (bareS (ptHead s)) with
  | none => exact ports_Parse_n I ea s W hG hE h3 hs hp
  | some x0 => exact ports_Parse_s I ea s x0 W hG hE h3 hs hp

end Go.Proofs.YthellfigmpjhlaaGreatDoor
