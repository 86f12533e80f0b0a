import Derived.Test.YthellfigmpjhlaaGreatDoorOct
namespace Go.Proofs.YthellfigmpjhlaaGreatDoor
open Go Go.RowKit
set_option linter.unusedVariables false
set_option linter.unusedSimpArgs false
section
variable {o : Oper} {E : Env} {W : World} {ax bx : Operand} {T' : TypeId}
theorem x_eVNe {ea : Nat → Addr} {e : Option Nat} (hop : o.op = .binOp .neq 24 ax bx T') (h1 : rho E ax = eV ea e) (h2 : rho E bx = .nilIface) (g1 : ∀ a, (eqGuard .neq 24 ax bx (.iface 226 (.pointer (some a))) .nilIface).run Tryz.prog W = .ok () W) (g2 : (eqGuard .neq 24 ax bx .nilIface .nilIface).run Tryz.prog W = .ok () W) : (execOp (rho E) o).run Tryz.prog W = .ok (.value (.bool e.isSome)) W := by
  cases e with
  | none => exact x_ne (x := .nilIface) (y := .nilIface) (r := true) hop h1 h2 g2 rfl (by kernel_rfl)
  | some i => exact x_ne (x := errV ea i) (y := .nilIface) (r := false) hop h1 h2 (g1 _) rfl (by kernel_rfl)
theorem x_eVEq {ea : Nat → Addr} {e : Option Nat} (hop : o.op = .binOp .eql 24 ax bx T') (h1 : rho E ax = eV ea e) (h2 : rho E bx = .nilIface) (g1 : ∀ a, (eqGuard .eql 24 ax bx (.iface 226 (.pointer (some a))) .nilIface).run Tryz.prog W = .ok () W) (g2 : (eqGuard .eql 24 ax bx .nilIface .nilIface).run Tryz.prog W = .ok () W) : (execOp (rho E) o).run Tryz.prog W = .ok (.value (.bool (!e.isSome))) W := by
  cases e with
  | none => exact x_eq (x := .nilIface) (y := .nilIface) (r := true) hop h1 h2 g2 rfl (by kernel_rfl)
  | some i => exact x_eq (x := errV ea i) (y := .nilIface) (r := false) hop h1 h2 (g1 _) rfl (by kernel_rfl)
end
set_option maxRecDepth 20000 in
theorem cur_Fail_new (W0 : World) (L : List Chunk) (ea : Nat → Addr) (c : Nat) (a0 a1 : Value) (e : Option Nat) (i : Nat) (W : World) (hO : Own W0 noX (.blk c (.cells #[a0, a1, eV ea e] 113 (0, 0)) :: L) W) (he : e.isSome = false) : Ret Tryz.prog 96 #[.pointer (some ⟨c, 0, none⟩), errV ea i] W fun v W' => v = .tuple #[] ∧ Own W0 noX (.blk c (.cells #[a0, a1, eV ea (some i)] 113 (0, 0)) :: L) W' := by
 refine enter Tryz.func96 rfl (n := 13) rfl (by kernel_rfl) (E0 := [(1, errV ea i), (0, .pointer (some ⟨c, 0, none⟩))]) (by kernel_rfl) ?_
 intro a hF; have hO := hO
 refine wp_seq_k fun K1 hK1 => ?_
 refine wp_region_lit ?_
 refine Vp hF (.pointer (some ⟨c, 0, none⟩)) ?_; clear hF; intro a hF
 refine Vp hF (.pointer (some ⟨c, 0, none⟩)) ?_; clear hF; intro a hF
 refine Vp hF (.pointer (some ⟨c, 2, none⟩)) ?_; clear hF; intro a hF
 refine Vr hF (eV ea e) (x_load (p := .pointer (some ⟨c, 2, none⟩)) rfl (by kernel_rfl) (run_load1 (by kernel_rfl) ((hO.cell List.mem_cons_self).trans (by kernel_rfl)))) ?_; clear hF; intro a hF
 refine Vr hF (.bool (!e.isSome)) (x_eVEq (ea := ea) (e := e) rfl (by kernel_rfl) (by kernel_rfl) (fun _ => by kernel_rfl) (by kernel_rfl)) ?_; clear hF; intro a hF
 refine L_nil ?_
 refine hK1 _ _ ?_
 replace hF := hF.know (d := 8) (v' := .bool true) (by kernel_rfl) (congrArg Value.bool (notT he))
 refine cond_t hF (by kernel_rfl) (by kernel_rfl) ?_
 refine wp_region_lit ?_
 refine Vp hF (.pointer (some ⟨c, 0, none⟩)) ?_; clear hF; intro a hF
 refine Vp hF (errV ea i) ?_; clear hF; intro a hF
 refine Vp hF (.pointer (some ⟨c, 0, none⟩)) ?_; clear hF; intro a hF
 refine Vp hF (.pointer (some ⟨c, 2, none⟩)) ?_; clear hF; intro a hF
 obtain ⟨W1, hst, hO1⟩ := run_storeAt (P := Tryz.prog) (k := 1) (T := 24) (off := 2) (v := errV ea i) (cs := #[a0, a1, eV ea e]) (cs' := #[a0, a1, errV ea i]) hO (by kernel_rfl) (by kernel_rfl) (by kernel_rfl) (Nat.le_of_ble_eq_true (by kernel_rfl)) (by kernel_rfl) (.head _)
 refine L_skip hF (by kernel_rfl) (by kernel_rfl) (x_store (p := .pointer (some ⟨c, 2, none⟩)) (v := errV ea i) rfl (by kernel_rfl) (by kernel_rfl) hst) (by kernel_rfl) ?_
 clear hst hF; intro a hF; replace hO := hO1; clear hO1
 refine L_nil ?_
 refine ret0 hF rfl  (by refine ⟨?_, hO⟩; rfl) .normal (.inr rfl)

set_option maxRecDepth 20000 in
theorem cur_Fail_bad (W0 : World) (L : List Chunk) (ea : Nat → Addr) (c : Nat) (a0 a1 : Value) (e : Option Nat) (i : Nat) (W : World) (hO : Own W0 noX (.blk c (.cells #[a0, a1, eV ea e] 113 (0, 0)) :: L) W) (he : e.isSome = true) : Ret Tryz.prog 96 #[.pointer (some ⟨c, 0, none⟩), errV ea i] W fun v W' => v = .tuple #[] ∧ Own W0 noX (.blk c (.cells #[a0, a1, eV ea e] 113 (0, 0)) :: L) W' := by
 refine enter Tryz.func96 rfl (n := 13) rfl (by kernel_rfl) (E0 := [(1, errV ea i), (0, .pointer (some ⟨c, 0, none⟩))]) (by kernel_rfl) ?_
 intro a hF; have hO := hO
 refine wp_seq_k fun K1 hK1 => ?_
 refine wp_region_lit ?_
 refine Vp hF (.pointer (some ⟨c, 0, none⟩)) ?_; clear hF; intro a hF
 refine Vp hF (.pointer (some ⟨c, 0, none⟩)) ?_; clear hF; intro a hF
 refine Vp hF (.pointer (some ⟨c, 2, none⟩)) ?_; clear hF; intro a hF
 refine Vr hF (eV ea e) (x_load (p := .pointer (some ⟨c, 2, none⟩)) rfl (by kernel_rfl) (run_load1 (by kernel_rfl) ((hO.cell List.mem_cons_self).trans (by kernel_rfl)))) ?_; clear hF; intro a hF
 refine Vr hF (.bool (!e.isSome)) (x_eVEq (ea := ea) (e := e) rfl (by kernel_rfl) (by kernel_rfl) (fun _ => by kernel_rfl) (by kernel_rfl)) ?_; clear hF; intro a hF
 refine L_nil ?_
 refine hK1 _ _ ?_
 replace hF := hF.know (d := 8) (v' := .bool false) (by kernel_rfl) (congrArg Value.bool (notF he))
 refine cond_f hF (by kernel_rfl) (by kernel_rfl) ?_
 refine wp_skip ?_
 refine ret0 hF rfl  (by refine ⟨?_, hO⟩; rfl) .normal (.inr rfl)

set_option maxRecDepth 20000 in
theorem cur_Left (W0 : World) (L : List Chunk) (I : List Nat) (ea : Nat → Addr) (c : Nat) (p : Option Addr) (cap : Nat) (l : List UInt8) (k : Nat) (e : Option Nat) (W : World) (hO : Own W0 noX (.blk c (.cells #[.slice p l.length cap, .int .i64 ((k : Int)), eV ea e] 113 (0, 0)) :: rowL u8L 1 5 p cap l :: L) W) (hk : k ≤ l.length) (hsz : l.length ≤ 1000000) : Ret Tryz.prog 98 #[.pointer (some ⟨c, 0, none⟩)] W fun v W' => v = .int .i64 ((l.length : Int) - (k : Int)) ∧ Own W0 noX (.blk c (.cells #[.slice p l.length cap, .int .i64 ((k : Int)), eV ea e] 113 (0, 0)) :: rowL u8L 1 5 p cap l :: L) W' := by
 refine enter Tryz.func98 rfl (n := 13) rfl (by kernel_rfl) (E0 := [(0, .pointer (some ⟨c, 0, none⟩))]) (by kernel_rfl) ?_
 intro a hF; have hO := hO
 refine wp_seq_k fun K1 hK1 => ?_
 refine wp_region_lit ?_
 refine Vp hF (.int .i64 0) ?_; clear hF; intro a hF
 refine L_nil ?_
 refine hK1 _ _ ?_
 refine wp_seq_k fun K2 hK2 => ?_
 refine A_start (fun Wx => Own W0 noX (.blk c (.cells #[.slice p l.length cap, .int .i64 ((k : Int)), eV ea e] 113 (0, 0)) :: rowL u8L 1 5 p cap l :: L) Wx) (by kernel_rfl) ?_
 replace hO := hO.drewN 1
 generalize hWd : ({ W with drawn := W.drawn + 1 } : World) = W_d at hO ⊢; clear hWd
 have hS := hO.sub (.cons_cons _ (.cons_cons _ (List.Sublist.refl _)))
 refine Tk 0 rfl hF (.pointer (some ⟨c, 0, none⟩)) (fun Wx _ => by kernel_rfl) hS ?_; clear hF; intro a hF
 refine Tk 1 rfl hF (.pointer (some ⟨c, 0, none⟩)) (fun Wx _ => by kernel_rfl) hS ?_; clear hF; intro a hF
 refine Tk 2 rfl hF (.pointer (some ⟨c, 0, none⟩)) (fun Wx _ => by kernel_rfl) hS ?_; clear hF; intro a hF
 refine Tk 3 rfl hF (.slice p l.length cap) (fun Wx hO => x_load (p := .pointer (some ⟨c, 0, none⟩)) rfl (by kernel_rfl) (run_load1 (by kernel_rfl) ((hO.cell List.mem_cons_self).trans (by kernel_rfl)))) hS ?_; clear hF; intro a hF
 refine Tk 4 rfl hF (.int .i64 ((l.length : Int))) (fun Wx _ => by kernel_rfl) hS ?_; clear hF; intro a hF
 refine Tk 5 rfl hF (.pointer (some ⟨c, 0, none⟩)) (fun Wx _ => by kernel_rfl) hS ?_; clear hF; intro a hF
 refine Tk 6 rfl hF (.pointer (some ⟨c, 0, none⟩)) (fun Wx _ => by kernel_rfl) hS ?_; clear hF; intro a hF
 refine Tk 7 rfl hF (.pointer (some ⟨c, 1, none⟩)) (fun Wx _ => by kernel_rfl) hS ?_; clear hF; intro a hF
 refine Tk 8 rfl hF (.int .i64 ((k : Int))) (fun Wx hO => x_load (p := .pointer (some ⟨c, 1, none⟩)) rfl (by kernel_rfl) (run_load1 (by kernel_rfl) ((hO.cell List.mem_cons_self).trans (by kernel_rfl)))) hS ?_; clear hF; intro a hF
 refine Tk 9 rfl hF (.int .i64 ((l.length : Int) - (k : Int))) (fun Wx _ => (x_int (x := IntKind.i64.wrap ((l.length : Int) - (k : Int))) (i64In (by omega) (by omega)) (by kernel_rfl))) hS ?_; clear hF; intro a hF
 refine Tk 10 rfl hF (.int .i64 ((l.length : Int) - (k : Int))) (fun Wx _ => by kernel_rfl) hS ?_; clear hF; intro a hF
 refine A_done (by kernel_rfl) ?_
 refine hK2 _ _ ?_
 refine wp_ret ?_
 replace hO := hO.front (.tail (.head _))
 replace hO := hO.front (.tail (.head _))
 refine ret1 hF (v := .int .i64 ((l.length : Int) - (k : Int))) rfl (resT (by kernel_rfl)) (by refine ⟨?_, hO.sub (.cons_cons _ (.cons_cons _ (List.Sublist.refl _)))⟩; first | rfl | (simp [*]; done)) .ret (.inl rfl)

set_option maxRecDepth 20000 in
theorem cur_next_err (W0 : World) (L : List Chunk) (I : List Nat) (ea : Nat → Addr) (c : Nat) (p : Option Addr) (cap : Nat) (l : List UInt8) (k : Nat) (e : Option Nat) (n : Nat) (W : World) (hO : Own W0 noX (.blk c (.cells #[.slice p l.length cap, .int .i64 ((k : Int)), eV ea e] 113 (0, 0)) :: rowL u8L 1 5 p cap l :: L) W) (hk : k ≤ l.length) (hsz : l.length ≤ 1000000) (he : e.isSome = true) : Ret Tryz.prog 142 #[.pointer (some ⟨c, 0, none⟩), .int .i64 ((n : Int))] W fun v W' => v = .slice none 0 0 ∧ Own W0 noX (.blk c (.cells #[.slice p l.length cap, .int .i64 ((k : Int)), eV ea e] 113 (0, 0)) :: rowL u8L 1 5 p cap l :: L) W' := by
 refine enter Tryz.func142 rfl (n := 46) rfl (by kernel_rfl) (E0 := [(1, .int .i64 ((n : Int))), (0, .pointer (some ⟨c, 0, none⟩))]) (by kernel_rfl) ?_
 intro a hF; have hO := hO
 refine wp_seq_k fun K1 hK1 => ?_
 refine wp_region_lit ?_
 refine Vp hF (.slice none 0 0) ?_; clear hF; intro a hF
 refine L_nil ?_
 refine hK1 _ _ ?_
 refine wp_seq_k fun K2 hK2 => ?_
 refine wp_block ?_
 refine wp_seq_k fun K3 hK3 => ?_
 refine wp_region_lit ?_
 refine Vp hF (.pointer (some ⟨c, 0, none⟩)) ?_; clear hF; intro a hF
 refine Vp hF (.pointer (some ⟨c, 0, none⟩)) ?_; clear hF; intro a hF
 refine Vp hF (.pointer (some ⟨c, 2, none⟩)) ?_; clear hF; intro a hF
 refine Vr hF (eV ea e) (x_load (p := .pointer (some ⟨c, 2, none⟩)) rfl (by kernel_rfl) (run_load1 (by kernel_rfl) ((hO.cell List.mem_cons_self).trans (by kernel_rfl)))) ?_; clear hF; intro a hF
 refine Vr hF (.bool e.isSome) (x_eVNe (ea := ea) (e := e) rfl (by kernel_rfl) (by kernel_rfl) (fun _ => by kernel_rfl) (by kernel_rfl)) ?_; clear hF; intro a hF
 refine Vp hF (.bool e.isSome) ?_; clear hF; intro a hF
 refine L_nil ?_
 refine hK3 _ _ ?_
 replace hF := hF.know (d := 5) (v' := .bool true) (by kernel_rfl) (congrArg Value.bool he)
 refine cond_t hF (by kernel_rfl) (by kernel_rfl) ?_
 refine wp_seq_k fun K4 hK4 => ?_
 refine wp_region_lit ?_
 refine Vp hF (.slice none 0 0) ?_; clear hF; intro a hF
 refine L_nil ?_
 refine hK4 _ _ ?_
 refine wp_ret ?_
 refine block_ret ?_
 refine then_ret ?_
 replace hO := hO.front (.tail (.head _))
 replace hO := hO.front (.tail (.head _))
 refine ret1 hF (v := .slice none 0 0) rfl (resT (by kernel_rfl)) (by refine ⟨?_, hO.sub (.cons_cons _ (.cons_cons _ (List.Sublist.refl _)))⟩; first | rfl | (simp [*]; done)) .ret (.inl rfl)

set_option maxRecDepth 20000 in
theorem cur_next_short (W0 : World) (L : List Chunk) (I : List Nat) (ea : Nat → Addr) (c : Nat) (p : Option Addr) (cap : Nat) (l : List UInt8) (k : Nat) (e : Option Nat) (n : Nat) (W : World) (hO : Own W0 noX (.blk c (.cells #[.slice p l.length cap, .int .i64 ((k : Int)), eV ea e] 113 (0, 0)) :: rowL u8L 1 5 p cap l :: L) W) (hk : k ≤ l.length) (hsz : l.length ≤ 1000000) (he : e.isSome = false) (hn : ¬ k + n ≤ l.length) (hE : Errs I ea W0) (h1 : I.contains 1 = true) : Ret Tryz.prog 142 #[.pointer (some ⟨c, 0, none⟩), .int .i64 ((n : Int))] W fun v W' => v = .slice none 0 0 ∧ Own W0 noX (.blk c (.cells #[.slice p l.length cap, .int .i64 ((k : Int)), eV ea (some 1)] 113 (0, 0)) :: rowL u8L 1 5 p cap l :: L) W' := by
 refine enter Tryz.func142 rfl (n := 46) rfl (by kernel_rfl) (E0 := [(1, .int .i64 ((n : Int))), (0, .pointer (some ⟨c, 0, none⟩))]) (by kernel_rfl) ?_
 intro a hF; have hO := hO
 refine wp_seq_k fun K1 hK1 => ?_
 refine wp_region_lit ?_
 refine Vp hF (.slice none 0 0) ?_; clear hF; intro a hF
 refine L_nil ?_
 refine hK1 _ _ ?_
 refine wp_seq_k fun K2 hK2 => ?_
 refine wp_block ?_
 refine wp_seq_k fun K3 hK3 => ?_
 refine wp_region_lit ?_
 refine Vp hF (.pointer (some ⟨c, 0, none⟩)) ?_; clear hF; intro a hF
 refine Vp hF (.pointer (some ⟨c, 0, none⟩)) ?_; clear hF; intro a hF
 refine Vp hF (.pointer (some ⟨c, 2, none⟩)) ?_; clear hF; intro a hF
 refine Vr hF (eV ea e) (x_load (p := .pointer (some ⟨c, 2, none⟩)) rfl (by kernel_rfl) (run_load1 (by kernel_rfl) ((hO.cell List.mem_cons_self).trans (by kernel_rfl)))) ?_; clear hF; intro a hF
 refine Vr hF (.bool e.isSome) (x_eVNe (ea := ea) (e := e) rfl (by kernel_rfl) (by kernel_rfl) (fun _ => by kernel_rfl) (by kernel_rfl)) ?_; clear hF; intro a hF
 refine Vp hF (.bool e.isSome) ?_; clear hF; intro a hF
 refine L_nil ?_
 refine hK3 _ _ ?_
 replace hF := hF.know (d := 5) (v' := .bool false) (by kernel_rfl) (congrArg Value.bool he)
 refine cond_f hF (by kernel_rfl) (by kernel_rfl) ?_
 refine wp_seq_k fun K4 hK4 => ?_
 refine wp_region_lit ?_
 refine Vp hF (.int .i64 ((n : Int))) ?_; clear hF; intro a hF
 refine Vr hF (.bool false) (x_bool (x := decide ((n : Int) < 0)) (decide_eq_false (by omega)) (by kernel_rfl)) ?_; clear hF; intro a hF
 refine Vp hF (.bool false) ?_; clear hF; intro a hF
 refine L_nil ?_
 refine hK4 _ _ ?_
 refine cond_f hF (by kernel_rfl) (by kernel_rfl) ?_
 refine wp_seq_k fun K5 hK5 => ?_
 refine wp_region_lit ?_
 refine Vp hF (.int .i64 ((n : Int))) ?_; clear hF; intro a hF
 refine Vp hF (.pointer (some ⟨c, 0, none⟩)) ?_; clear hF; intro a hF
 replace hO := hO.front (.tail (.head _))
 replace hO := hO.front (.tail (.head _))
 refine Lc hF (cur_Left W0 _ I ea c p cap l k e W hO (by omega) hsz) ?_
 clear hF; rintro _ W1 a ⟨rfl, hk⟩ hF; replace hO := hk; clear hk
 refine Vr hF (.bool true) (x_bool (x := decide ((n : Int) > (l.length : Int) - (k : Int))) (decide_eq_true (by omega)) (by kernel_rfl)) ?_; clear hF; intro a hF
 refine Vp hF (.bool true) ?_; clear hF; intro a hF
 refine L_nil ?_
 refine hK5 _ _ ?_
 refine cond_t hF (by kernel_rfl) (by kernel_rfl) ?_
 refine wp_seq_k fun K6 hK6 => ?_
 refine wp_region_lit ?_
 refine Vp hF (.pointer (some ⟨c, 0, none⟩)) ?_; clear hF; intro a hF
 refine Vr hF (errV ea 1) (x_load (p := .pointer (some ⟨2, 0, none⟩)) rfl (by kernel_rfl) (hE.load hO 1 2 h1 (by kernel_rfl))) ?_; clear hF; intro a hF
 refine Lc hF (cur_Fail_new W0 _ ea c (.slice p l.length cap) (.int .i64 ((k : Int))) e 1 W1 hO (by assumption)) ?_
 clear hF; rintro _ W2 a ⟨rfl, hk⟩ hF; replace hO := hk; clear hk
 refine L_nil ?_
 refine hK6 _ _ ?_
 refine wp_seq_k fun K7 hK7 => ?_
 refine wp_region_lit ?_
 refine Vp hF (.slice none 0 0) ?_; clear hF; intro a hF
 refine L_nil ?_
 refine hK7 _ _ ?_
 refine wp_ret ?_
 refine block_ret ?_
 refine then_ret ?_
 replace hO := hO.front (.tail (.head _))
 replace hO := hO.front (.tail (.head _))
 refine ret1 hF (v := .slice none 0 0) rfl (resT (by kernel_rfl)) (by refine ⟨?_, hO.sub (.cons_cons _ (.cons_cons _ (List.Sublist.refl _)))⟩; first | rfl | (exfalso; omega)) .ret (.inl rfl)

set_option maxRecDepth 20000 in
theorem cur_next_ok (W0 : World) (L : List Chunk) (I : List Nat) (ea : Nat → Addr) (c : Nat) (p : Option Addr) (cap : Nat) (l : List UInt8) (k : Nat) (e : Option Nat) (n : Nat) (W : World) (hO : Own W0 noX (.blk c (.cells #[.slice p l.length cap, .int .i64 ((k : Int)), eV ea e] 113 (0, 0)) :: rowL u8L 1 5 p cap l :: L) W) (hk : k ≤ l.length) (hsz : l.length ≤ 1000000) (he : e.isSome = false) (hn : k + n ≤ l.length) : Ret Tryz.prog 142 #[.pointer (some ⟨c, 0, none⟩), .int .i64 ((n : Int))] W fun v W' => v = .slice (subP p (k + n) k 1) n n ∧ Own W0 noX (.blk c (.cells #[.slice p l.length cap, .int .i64 ((k : Int)), eV ea e] 113 (0, 0)) :: rowL u8L 1 5 p cap l :: L) W' := by
 refine enter Tryz.func142 rfl (n := 46) rfl (by kernel_rfl) (E0 := [(1, .int .i64 ((n : Int))), (0, .pointer (some ⟨c, 0, none⟩))]) (by kernel_rfl) ?_
 intro a hF; have hO := hO
 refine wp_seq_k fun K1 hK1 => ?_
 refine wp_region_lit ?_
 refine Vp hF (.slice none 0 0) ?_; clear hF; intro a hF
 refine L_nil ?_
 refine hK1 _ _ ?_
 refine wp_seq_k fun K2 hK2 => ?_
 refine wp_block ?_
 refine wp_seq_k fun K3 hK3 => ?_
 refine wp_region_lit ?_
 refine Vp hF (.pointer (some ⟨c, 0, none⟩)) ?_; clear hF; intro a hF
 refine Vp hF (.pointer (some ⟨c, 0, none⟩)) ?_; clear hF; intro a hF
 refine Vp hF (.pointer (some ⟨c, 2, none⟩)) ?_; clear hF; intro a hF
 refine Vr hF (eV ea e) (x_load (p := .pointer (some ⟨c, 2, none⟩)) rfl (by kernel_rfl) (run_load1 (by kernel_rfl) ((hO.cell List.mem_cons_self).trans (by kernel_rfl)))) ?_; clear hF; intro a hF
 refine Vr hF (.bool e.isSome) (x_eVNe (ea := ea) (e := e) rfl (by kernel_rfl) (by kernel_rfl) (fun _ => by kernel_rfl) (by kernel_rfl)) ?_; clear hF; intro a hF
 refine Vp hF (.bool e.isSome) ?_; clear hF; intro a hF
 refine L_nil ?_
 refine hK3 _ _ ?_
 replace hF := hF.know (d := 5) (v' := .bool false) (by kernel_rfl) (congrArg Value.bool he)
 refine cond_f hF (by kernel_rfl) (by kernel_rfl) ?_
 refine wp_seq_k fun K4 hK4 => ?_
 refine wp_region_lit ?_
 refine Vp hF (.int .i64 ((n : Int))) ?_; clear hF; intro a hF
 refine Vr hF (.bool false) (x_bool (x := decide ((n : Int) < 0)) (decide_eq_false (by omega)) (by kernel_rfl)) ?_; clear hF; intro a hF
 refine Vp hF (.bool false) ?_; clear hF; intro a hF
 refine L_nil ?_
 refine hK4 _ _ ?_
 refine cond_f hF (by kernel_rfl) (by kernel_rfl) ?_
 refine wp_seq_k fun K5 hK5 => ?_
 refine wp_region_lit ?_
 refine Vp hF (.int .i64 ((n : Int))) ?_; clear hF; intro a hF
 refine Vp hF (.pointer (some ⟨c, 0, none⟩)) ?_; clear hF; intro a hF
 replace hO := hO.front (.tail (.head _))
 replace hO := hO.front (.tail (.head _))
 refine Lc hF (cur_Left W0 _ I ea c p cap l k e W hO (by omega) hsz) ?_
 clear hF; rintro _ W1 a ⟨rfl, hk⟩ hF; replace hO := hk; clear hk
 refine Vr hF (.bool false) (x_bool (x := decide ((n : Int) > (l.length : Int) - (k : Int))) (decide_eq_false (by omega)) (by kernel_rfl)) ?_; clear hF; intro a hF
 refine Vp hF (.bool false) ?_; clear hF; intro a hF
 refine L_nil ?_
 refine hK5 _ _ ?_
 refine cond_f hF (by kernel_rfl) (by kernel_rfl) ?_
 refine wp_skip ?_
 refine block_normal ?_
 refine hK2 _ _ ?_
 refine wp_seq_k fun K6 hK6 => ?_
 refine A_start (fun Wx => Own W0 noX (.blk c (.cells #[.slice p l.length cap, .int .i64 ((k : Int)), eV ea e] 113 (0, 0)) :: rowL u8L 1 5 p cap l :: L) Wx) (by kernel_rfl) ?_
 replace hO := hO.drewN 1
 generalize hWd : ({ W1 with drawn := W1.drawn + 1 } : World) = W1_d at hO ⊢; clear hWd
 have hS := hO.sub (.cons_cons _ (.cons_cons _ (List.Sublist.refl _)))
 refine Tk 0 rfl hF (.pointer (some ⟨c, 0, none⟩)) (fun Wx _ => by kernel_rfl) hS ?_; clear hF; intro a hF
 refine Tk 1 rfl hF (.pointer (some ⟨c, 0, none⟩)) (fun Wx _ => by kernel_rfl) hS ?_; clear hF; intro a hF
 refine Tk 2 rfl hF (.pointer (some ⟨c, 0, none⟩)) (fun Wx _ => by kernel_rfl) hS ?_; clear hF; intro a hF
 refine Tk 3 rfl hF (.slice p l.length cap) (fun Wx hO => x_load (p := .pointer (some ⟨c, 0, none⟩)) rfl (by kernel_rfl) (run_load1 (by kernel_rfl) ((hO.cell List.mem_cons_self).trans (by kernel_rfl)))) hS ?_; clear hF; intro a hF
 refine Tk 4 rfl hF (.pointer (some ⟨c, 0, none⟩)) (fun Wx _ => by kernel_rfl) hS ?_; clear hF; intro a hF
 refine Tk 5 rfl hF (.pointer (some ⟨c, 0, none⟩)) (fun Wx _ => by kernel_rfl) hS ?_; clear hF; intro a hF
 refine Tk 6 rfl hF (.pointer (some ⟨c, 1, none⟩)) (fun Wx _ => by kernel_rfl) hS ?_; clear hF; intro a hF
 refine Tk 7 rfl hF (.int .i64 ((k : Int))) (fun Wx hO => x_load (p := .pointer (some ⟨c, 1, none⟩)) rfl (by kernel_rfl) (run_load1 (by kernel_rfl) ((hO.cell List.mem_cons_self).trans (by kernel_rfl)))) hS ?_; clear hF; intro a hF
 refine Tk 8 rfl hF (.pointer (some ⟨c, 0, none⟩)) (fun Wx _ => by kernel_rfl) hS ?_; clear hF; intro a hF
 refine Tk 9 rfl hF (.pointer (some ⟨c, 0, none⟩)) (fun Wx _ => by kernel_rfl) hS ?_; clear hF; intro a hF
 refine Tk 10 rfl hF (.pointer (some ⟨c, 1, none⟩)) (fun Wx _ => by kernel_rfl) hS ?_; clear hF; intro a hF
 refine Tk 11 rfl hF (.int .i64 ((k : Int))) (fun Wx hO => x_load (p := .pointer (some ⟨c, 1, none⟩)) rfl (by kernel_rfl) (run_load1 (by kernel_rfl) ((hO.cell List.mem_cons_self).trans (by kernel_rfl)))) hS ?_; clear hF; intro a hF
 refine Tk 12 rfl hF (.int .i64 ((n : Int))) (fun Wx _ => by kernel_rfl) hS ?_; clear hF; intro a hF
 refine Tk 13 rfl hF (.int .i64 (((k + n : Nat) : Int))) (fun Wx _ => (x_int (x := IntKind.i64.wrap ((k : Int) + (n : Int))) ((i64In (by omega) (by omega)).trans (by omega)) (by kernel_rfl))) hS ?_; clear hF; intro a hF
 refine Tk 14 rfl hF (.pointer (some ⟨c, 0, none⟩)) (fun Wx _ => by kernel_rfl) hS ?_; clear hF; intro a hF
 refine Tk 15 rfl hF (.pointer (some ⟨c, 0, none⟩)) (fun Wx _ => by kernel_rfl) hS ?_; clear hF; intro a hF
 refine Tk 16 rfl hF (.pointer (some ⟨c, 1, none⟩)) (fun Wx _ => by kernel_rfl) hS ?_; clear hF; intro a hF
 refine Tk 17 rfl hF (.int .i64 ((k : Int))) (fun Wx hO => x_load (p := .pointer (some ⟨c, 1, none⟩)) rfl (by kernel_rfl) (run_load1 (by kernel_rfl) ((hO.cell List.mem_cons_self).trans (by kernel_rfl)))) hS ?_; clear hF; intro a hF
 refine Tk 18 rfl hF (.int .i64 ((n : Int))) (fun Wx _ => by kernel_rfl) hS ?_; clear hF; intro a hF
 refine Tk 19 rfl hF (.int .i64 (((k + n : Nat) : Int))) (fun Wx _ => (x_int (x := IntKind.i64.wrap ((k : Int) + (n : Int))) ((i64In (by omega) (by omega)).trans (by omega)) (by kernel_rfl))) hS ?_; clear hF; intro a hF
 refine Tk 20 rfl hF (.slice (subP p (k + n) k 1) ((k + n) - k) ((k + n) - k)) (fun Wx _ => (x_slSl3 (p := p) (len := l.length) (cap := cap) (elem := 5) (k := 1) (lo := (k : Int)) (hi := ((k + n : Nat) : Int)) (mm := ((k + n : Nat) : Int)) rfl (by kernel_rfl) (by kernel_rfl) (by kernel_rfl) ⟨.i64, (by kernel_rfl)⟩ ⟨.i64, (by kernel_rfl)⟩ ⟨.i64, (by kernel_rfl)⟩ (by omega) (by omega) (by omega) (by have := (hO.rowCap (List.mem_cons_of_mem _ List.mem_cons_self)); omega) (by omega) (by omega))) hS ?_; clear hF; intro a hF
 refine Tk 21 rfl hF (.slice (subP p (k + n) k 1) ((k + n) - k) ((k + n) - k)) (fun Wx _ => by kernel_rfl) hS ?_; clear hF; intro a hF
 refine A_done (by kernel_rfl) ?_
 refine hK6 _ _ ?_
 refine wp_ret ?_
 replace hO := hO.front (.tail (.head _))
 replace hO := hO.front (.tail (.head _))
 replace hO := hO.front (.tail (.head _))
 replace hO := hO.front (.tail (.head _))
 refine ret1 hF (v := .slice (subP p (k + n) k 1) ((k + n) - k) ((k + n) - k)) rfl (resT (by kernel_rfl)) (by exact ⟨by rw [show k + n - k = n by omega], hO.sub (.cons_cons _ (.cons_cons _ (List.Sublist.refl _)))⟩) .ret (.inl rfl)

set_option maxRecDepth 20000 in
theorem oct_number (p : Option Addr) (cap : Nat) (l : List UInt8) (W : World) (hl : SlAt W p (l.flatMap u8L)) (hn : l.length ≤ 2) : Ret Tryz.prog 143 #[.slice p l.length cap] W fun v W' => v = .int .u64 (numB l : Int) ∧ Own W noX [] W' := by
 refine enter Tryz.func143 rfl (n := 19) rfl (by kernel_rfl) (E0 := [(0, .slice p l.length cap)]) (by kernel_rfl) ?_
 intro a hF; have hO := Own.start W noX
 refine wp_seq_k fun K1 hK1 => ?_
 refine wp_region_lit ?_
 refine Vp hF (.int .u64 0) ?_; clear hF; intro a hF
 refine L_nil ?_
 refine hK1 _ _ ?_
 refine wp_seq_k fun K2 hK2 => ?_
 refine wp_region_lit ?_
 refine Vp hF (.int .u64 0) ?_; clear hF; intro a hF
 refine L_nil ?_
 refine hK2 _ _ ?_
 refine wp_seq_k fun K3 hK3 => ?_
 refine wp_seq_k fun K4 hK4 => ?_
 refine wp_region_lit ?_
 refine Vp hF (.slice p l.length cap) ?_; clear hF; intro a hF
 refine Vp hF (.int .i64 ((l.length : Int))) ?_; clear hF; intro a hF
 refine Vp hF (.int .i64 0) ?_; clear hF; intro a hF
 refine L_nil ?_
 refine hK4 _ _ ?_
 refine wp_block ?_
 refine loopX (τ := Nat) (fun (i : Nat) a Wx => (i ≤ l.length) ∧ Fr 19 a [(2, .int .u64 0), (3, .int .u64 ((numB (l.take i) : Int))), (6, .slice p l.length cap), (7, .int .i64 ((l.length : Int))), (8, .int .i64 ((i : Int)))] ∧ Own W noX [] Wx) (fun (i : Nat) => l.length - i) (0) ⟨Nat.zero_le _, ?_, ?_⟩ ?_
 · exact hF.restrict ⟨(by kernel_rfl), (congrArg some (by first | rfl | exact congrArg (Value.int _) (by omega) | simp)), (by kernel_rfl), (by kernel_rfl), (congrArg some (by first | rfl | exact congrArg (Value.int _) (by omega) | simp)), trivial⟩
 · exact hO.sub (List.nil_sublist _)
 clear hF hO; rintro i a Wl1 ⟨hI, hF, hO⟩ KhK_1 hK_1
 try dsimp only at hI
 refine wp_seq_k fun K5 hK5 => ?_
 refine wp_region_lit ?_
 refine Vp hF (.bool (decide ((i : Int) < (l.length : Int)))) ?_; clear hF; intro a hF
 refine L_nil ?_
 refine hK5 _ _ ?_
 refine wp_seq_k fun K6 hK6 => ?_
 by_cases q1 : (i : Int) < (l.length : Int)
 ·
  replace hF := hF.know (d := 9) (v' := .bool true) (by kernel_rfl) (congrArg Value.bool (decide_eq_true q1))
  refine cond_t hF (by kernel_rfl) (by kernel_rfl) ?_
  refine wp_skip ?_
  refine hK6 _ _ ?_
  refine wp_seq_k fun K7 hK7 => ?_
  refine wp_block ?_
  refine wp_seq_k fun K8 hK8 => ?_
  refine wp_region_lit ?_
  refine Vr hF (.pointer (some ⟨(ab p), ao p + i * 1, none⟩)) (x_idxAddrS (p := p) (len := l.length) (cap := cap) (elem := 5) (kd := .i64) (k := 1) (i := (i : Int)) rfl (by kernel_rfl) (by kernel_rfl) (by kernel_rfl) (by kernel_rfl) (by omega) (by omega) (SlAt.ne (k := 1) (hl.own hO) (fun _ => rfl) (by decide) (by (first | omega | (simp only [List.length_set, List.length_take, List.length_drop, List.length_append, List.length_cons, List.length_nil]; done) | (simp only [List.length_set, List.length_take, List.length_drop, List.length_append, List.length_cons, List.length_nil]; omega) | (simp only [List.length_set, List.length_take, List.length_drop, List.length_append, List.length_cons, List.length_nil] at *; omega)) : i < l.length))) ?_; clear hF; intro a hF
  refine Vr hF (.int .u8 (((nth l i).toNat : Int))) (x_load (p := .pointer (some ⟨(ab p), ao p + i * 1, none⟩)) rfl (by kernel_rfl) (run_loadEl1 (by kernel_rfl) (hl.own hO) (fun _ => rfl) (by (first | omega | (simp only [List.length_set, List.length_take, List.length_drop, List.length_append, List.length_cons, List.length_nil]; done) | (simp only [List.length_set, List.length_take, List.length_drop, List.length_append, List.length_cons, List.length_nil]; omega) | (simp only [List.length_set, List.length_take, List.length_drop, List.length_append, List.length_cons, List.length_nil] at *; omega))) rfl)) ?_; clear hF; intro a hF
  refine Vp hF (.int .u8 (((nth l i).toNat : Int))) ?_; clear hF; intro a hF
  refine L_nil ?_
  refine hK8 _ _ ?_
  refine wp_region_lit ?_
  refine Vp hF (.int .u64 ((numB (l.take i) : Int))) ?_; clear hF; intro a hF
  refine Vr hF (.int .u64 ((numB (l.take i) : Int) * 256)) (x_int (x := IntKind.u64.wrap ((numB (l.take i) : Int) * 256)) (u64In (by (first | omega | (have hq := numB_1 (l := l.take i) (by simp only [List.length_take]; omega); omega) | (have hq := UInt8.toNat_lt (nth l i); omega))) (by (first | omega | (have hq := numB_1 (l := l.take i) (by simp only [List.length_take]; omega); omega) | (have hq := UInt8.toNat_lt (nth l i); omega)))) (by kernel_rfl)) ?_; clear hF; intro a hF
  refine Vp hF (.int .u8 (((nth l i).toNat : Int))) ?_; clear hF; intro a hF
  refine Vr hF (.int .u64 (((nth l i).toNat : Int))) (x_int (x := IntKind.u64.wrap (((nth l i).toNat : Int))) (u64In (by have := UInt8.toNat_lt (nth l i); omega) (by have := UInt8.toNat_lt (nth l i); omega)) (by kernel_rfl)) ?_; clear hF; intro a hF
  refine Vr hF (.int .u64 (((numB (l.take i) * 256 + (nth l i).toNat : Nat) : Int))) (x_int (or_u64 (by have := numB_1 (l := l.take i) (by simp only [List.length_take]; omega); omega) (UInt8.toNat_lt _)) (by kernel_rfl)) ?_; clear hF; intro a hF
  refine Vp hF (.int .u64 (((numB (l.take i) * 256 + (nth l i).toNat : Nat) : Int))) ?_; clear hF; intro a hF
  refine L_nil ?_
  refine block_normal ?_
  refine hK7 _ _ ?_
  refine wp_region_lit ?_
  refine Vr hF (.int .i64 ((i : Int) + 1)) (x_int (x := IntKind.i64.wrap ((i : Int) + 1)) (i64In (by omega) (by omega)) (by kernel_rfl)) ?_; clear hF; intro a hF
  refine Vp hF (.int .i64 ((i : Int) + 1)) ?_; clear hF; intro a hF
  refine L_nil ?_
  refine hK_1 (i + 1) _ _ (by first | omega | (dsimp only; omega)) ⟨by omega, ?_, ?_⟩
  · exact hF.restrict ⟨(by kernel_rfl), (congrArg some (by first | rfl | exact congrArg (Value.int _) (by omega) | exact congrArg (fun z : Nat => Value.int .u64 (z : Int)) (numB_take (by omega)).symm)), (by kernel_rfl), (by kernel_rfl), (congrArg some (by first | rfl | exact congrArg (Value.int _) (by omega) | exact congrArg (fun z : Nat => Value.int .u64 (z : Int)) (numB_take (by omega)).symm)), trivial⟩
  · exact hO.sub (List.nil_sublist _)
 ·
  replace hF := hF.know (d := 9) (v' := .bool false) (by kernel_rfl) (congrArg Value.bool (decide_eq_false q1))
  refine cond_f hF (by kernel_rfl) (by kernel_rfl) ?_
  refine wp_exit ?_
  refine then_exit ?_
  refine then_exit ?_
  refine inBlock_hit ?_
  refine hK3 _ _ ?_
  refine wp_seq_k fun K9 hK9 => ?_
  refine wp_region_lit ?_
  refine Vp hF (.int .u64 ((numB (l.take i) : Int))) ?_; clear hF; intro a hF
  refine Vp hF (.int .u64 ((numB (l.take i) : Int))) ?_; clear hF; intro a hF
  refine L_nil ?_
  refine hK9 _ _ ?_
  refine wp_ret ?_
  refine ret1 hF (v := .int .u64 ((numB (l.take i) : Int))) rfl (resT (by kernel_rfl)) (by refine ⟨?_, hO.nil⟩; obtain rfl : i = l.length := (by omega); rw [List.take_length]) .ret (.inl rfl)

theorem oct_number_n (p : Option Addr) (cap : Nat) (l : List UInt8) (m : Nat) (he : m = l.length) (W : World) (hl : SlAt W p (l.flatMap u8L)) (hn : l.length ≤ 2) : Ret Tryz.prog 143 #[.slice p m cap] W fun v W' => v = .int .u64 (numB l : Int) ∧ Own W noX [] W' := he ▸ oct_number p cap l W hl hn
set_option maxRecDepth 20000 in
theorem cur_Num1_err (W0 : World) (L : List Chunk) (I : List Nat) (ea : Nat → Addr) (c : Nat) (p : Option Addr) (cap : Nat) (l : List UInt8) (k : Nat) (e : Option Nat) (W : World) (hO : Own W0 noX (.blk c (.cells #[.slice p l.length cap, .int .i64 ((k : Int)), eV ea e] 113 (0, 0)) :: rowL u8L 1 5 p cap l :: L) W) (hk : k ≤ l.length) (hsz : l.length ≤ 1000000) (he : e.isSome = true) : Ret Tryz.prog 95 #[.pointer (some ⟨c, 0, none⟩), .int .i64 1] W fun v W' => v = .int .i64 0 ∧ Own W0 noX (.blk c (.cells #[.slice p l.length cap, .int .i64 ((k : Int)), eV ea e] 113 (0, 0)) :: rowL u8L 1 5 p cap l :: L) W' := by
 refine enter Tryz.func95 rfl (n := 37) rfl (by kernel_rfl) (E0 := [(1, .int .i64 1), (0, .pointer (some ⟨c, 0, none⟩))]) (by kernel_rfl) ?_
 intro a hF; have hO := hO
 refine wp_seq_k fun K1 hK1 => ?_
 refine wp_region_lit ?_
 refine Vp hF (.int .i64 0) ?_; clear hF; intro a hF
 refine L_nil ?_
 refine hK1 _ _ ?_
 refine wp_seq_k fun K2 hK2 => ?_
 refine wp_seq_k fun K3 hK3 => ?_
 refine wp_region_lit ?_
 refine Vp hF (.int .i64 1) ?_; clear hF; intro a hF
 refine Vp hF (.bool false) ?_; clear hF; intro a hF
 refine Vp hF (.bool false) ?_; clear hF; intro a hF
 refine Vp hF (.int .i64 1) ?_; clear hF; intro a hF
 refine Vp hF (.bool false) ?_; clear hF; intro a hF
 refine Vp hF (.bool false) ?_; clear hF; intro a hF
 refine L_nil ?_
 refine hK3 _ _ ?_
 refine cond_f hF (by kernel_rfl) (by kernel_rfl) ?_
 refine wp_skip ?_
 refine hK2 _ _ ?_
 refine wp_seq_k fun K4 hK4 => ?_
 refine wp_region_lit ?_
 refine Vp hF (.pointer (some ⟨c, 0, none⟩)) ?_; clear hF; intro a hF
 refine Vp hF (.int .i64 1) ?_; clear hF; intro a hF
 replace hO := hO.front (.tail (.head _))
 replace hO := hO.front (.tail (.head _))
 refine Lc hF (cur_next_err W0 _ I ea c p cap l k e 1 W hO (by omega) (by omega) (by assumption)) ?_
 clear hF; rintro _ W1 a ⟨rfl, hk⟩ hF; replace hO := hk; clear hk
 refine Vp hF (.slice none 0 0) ?_; clear hF; intro a hF
 refine L_nil ?_
 refine hK4 _ _ ?_
 refine wp_seq_k fun K5 hK5 => ?_
 refine wp_region_lit ?_
 refine Vp hF (.slice none 0 0) ?_; clear hF; intro a hF
 refine Lc hF (oct_number_n (none) 0 ([] : List UInt8) 0 (by simp) W1 (SlAt.nil _ _) (by simp)) ?_
 clear hF; rintro _ W2 a ⟨rfl, hk⟩ hF
 replace hO := hO.call0 hk; clear hk
 refine Vp hF (.int .u64 ((numB ([] : List UInt8) : Int))) ?_; clear hF; intro a hF
 refine L_nil ?_
 refine hK5 _ _ ?_
 refine wp_seq_k fun K6 hK6 => ?_
 refine wp_seq_k fun K7 hK7 => ?_
 refine wp_region_lit ?_
 refine Vp hF (.int .u64 ((numB ([] : List UInt8) : Int))) ?_; clear hF; intro a hF
 refine Vr hF (.bool false) (x_bool (x := decide ((numB ([] : List UInt8) : Int) > 4611686018427387904)) (decide_eq_false (by have := numB_le (l := ([] : List UInt8)) (by simp); omega)) (by kernel_rfl)) ?_; clear hF; intro a hF
 refine L_nil ?_
 refine hK7 _ _ ?_
 refine cond_f hF (by kernel_rfl) (by kernel_rfl) ?_
 refine wp_skip ?_
 refine hK6 _ _ ?_
 refine wp_seq_k fun K8 hK8 => ?_
 refine wp_region_lit ?_
 refine Vp hF (.pointer (some ⟨c, 0, none⟩)) ?_; clear hF; intro a hF
 refine Vp hF (.pointer (some ⟨c, 0, none⟩)) ?_; clear hF; intro a hF
 refine Vp hF (.pointer (some ⟨c, 1, none⟩)) ?_; clear hF; intro a hF
 refine Vr hF (.int .i64 ((k : Int))) (x_load (p := .pointer (some ⟨c, 1, none⟩)) rfl (by kernel_rfl) (run_load1 (by kernel_rfl) ((hO.cell List.mem_cons_self).trans (by kernel_rfl)))) ?_; clear hF; intro a hF
 refine Vp hF (.slice none 0 0) ?_; clear hF; intro a hF
 refine Vp hF (.int .i64 0) ?_; clear hF; intro a hF
 refine Vr hF (.int .i64 ((k : Int))) (x_int (x := IntKind.i64.wrap ((k : Int) + 0)) ((i64In (by omega) (by omega)).trans (by omega)) (by kernel_rfl)) ?_; clear hF; intro a hF
 refine Vp hF (.pointer (some ⟨c, 0, none⟩)) ?_; clear hF; intro a hF
 refine Vp hF (.pointer (some ⟨c, 1, none⟩)) ?_; clear hF; intro a hF
 obtain ⟨W3, hst, hO1⟩ := run_storeAt (P := Tryz.prog) (k := 1) (T := 3) (off := 1) (v := .int .i64 ((k : Int))) (cs := #[.slice p l.length cap, .int .i64 ((k : Int)), eV ea e]) (cs' := #[.slice p l.length cap, .int .i64 ((k : Int)), eV ea e]) hO (by kernel_rfl) (by kernel_rfl) (by kernel_rfl) (Nat.le_of_ble_eq_true (by kernel_rfl)) (by kernel_rfl) (.head _)
 refine L_skip hF (by kernel_rfl) (by kernel_rfl) (x_store (p := .pointer (some ⟨c, 1, none⟩)) (v := .int .i64 ((k : Int))) rfl (by kernel_rfl) (by kernel_rfl) hst) (by kernel_rfl) ?_
 clear hst hF; intro a hF; replace hO := hO1; clear hO1
 refine L_nil ?_
 refine hK8 _ _ ?_
 refine wp_seq_k fun K9 hK9 => ?_
 refine wp_region_lit ?_
 refine Vp hF (.int .u64 ((numB ([] : List UInt8) : Int))) ?_; clear hF; intro a hF
 refine Vr hF (.int .i64 0) (x_int (x := IntKind.i64.wrap ((numB ([] : List UInt8) : Int))) (by decide) (by kernel_rfl)) ?_; clear hF; intro a hF
 refine Vp hF (.int .i64 0) ?_; clear hF; intro a hF
 refine L_nil ?_
 refine hK9 _ _ ?_
 refine wp_ret ?_
 replace hO := hO.front (.tail (.head _))
 replace hO := hO.front (.tail (.head _))
 refine ret1 hF (v := .int .i64 0) rfl (resT (by kernel_rfl)) (by refine ⟨?_, hO.sub (.cons_cons _ (.cons_cons _ (List.Sublist.refl _)))⟩; first | rfl | (simp [*]; done)) .ret (.inl rfl)

set_option maxRecDepth 20000 in
theorem cur_Num1_short (W0 : World) (L : List Chunk) (I : List Nat) (ea : Nat → Addr) (c : Nat) (p : Option Addr) (cap : Nat) (l : List UInt8) (k : Nat) (e : Option Nat) (W : World) (hO : Own W0 noX (.blk c (.cells #[.slice p l.length cap, .int .i64 ((k : Int)), eV ea e] 113 (0, 0)) :: rowL u8L 1 5 p cap l :: L) W) (hk : k ≤ l.length) (hsz : l.length ≤ 1000000) (he : e.isSome = false) (hn : ¬ k + 1 ≤ l.length) (hE : Errs I ea W0) (h1 : I.contains 1 = true) : Ret Tryz.prog 95 #[.pointer (some ⟨c, 0, none⟩), .int .i64 1] W fun v W' => v = .int .i64 0 ∧ Own W0 noX (.blk c (.cells #[.slice p l.length cap, .int .i64 ((k : Int)), eV ea (some 1)] 113 (0, 0)) :: rowL u8L 1 5 p cap l :: L) W' := by
 refine enter Tryz.func95 rfl (n := 37) rfl (by kernel_rfl) (E0 := [(1, .int .i64 1), (0, .pointer (some ⟨c, 0, none⟩))]) (by kernel_rfl) ?_
 intro a hF; have hO := hO
 refine wp_seq_k fun K1 hK1 => ?_
 refine wp_region_lit ?_
 refine Vp hF (.int .i64 0) ?_; clear hF; intro a hF
 refine L_nil ?_
 refine hK1 _ _ ?_
 refine wp_seq_k fun K2 hK2 => ?_
 refine wp_seq_k fun K3 hK3 => ?_
 refine wp_region_lit ?_
 refine Vp hF (.int .i64 1) ?_; clear hF; intro a hF
 refine Vp hF (.bool false) ?_; clear hF; intro a hF
 refine Vp hF (.bool false) ?_; clear hF; intro a hF
 refine Vp hF (.int .i64 1) ?_; clear hF; intro a hF
 refine Vp hF (.bool false) ?_; clear hF; intro a hF
 refine Vp hF (.bool false) ?_; clear hF; intro a hF
 refine L_nil ?_
 refine hK3 _ _ ?_
 refine cond_f hF (by kernel_rfl) (by kernel_rfl) ?_
 refine wp_skip ?_
 refine hK2 _ _ ?_
 refine wp_seq_k fun K4 hK4 => ?_
 refine wp_region_lit ?_
 refine Vp hF (.pointer (some ⟨c, 0, none⟩)) ?_; clear hF; intro a hF
 refine Vp hF (.int .i64 1) ?_; clear hF; intro a hF
 replace hO := hO.front (.tail (.head _))
 replace hO := hO.front (.tail (.head _))
 refine Lc hF (cur_next_short W0 _ I ea c p cap l k e 1 W hO (by omega) (by omega) (by assumption) (by assumption) hE h1) ?_
 clear hF; rintro _ W1 a ⟨rfl, hk⟩ hF; replace hO := hk; clear hk
 refine Vp hF (.slice none 0 0) ?_; clear hF; intro a hF
 refine L_nil ?_
 refine hK4 _ _ ?_
 refine wp_seq_k fun K5 hK5 => ?_
 refine wp_region_lit ?_
 refine Vp hF (.slice none 0 0) ?_; clear hF; intro a hF
 refine Lc hF (oct_number_n (none) 0 ([] : List UInt8) 0 (by simp) W1 (SlAt.nil _ _) (by simp)) ?_
 clear hF; rintro _ W2 a ⟨rfl, hk⟩ hF
 replace hO := hO.call0 hk; clear hk
 refine Vp hF (.int .u64 ((numB ([] : List UInt8) : Int))) ?_; clear hF; intro a hF
 refine L_nil ?_
 refine hK5 _ _ ?_
 refine wp_seq_k fun K6 hK6 => ?_
 refine wp_seq_k fun K7 hK7 => ?_
 refine wp_region_lit ?_
 refine Vp hF (.int .u64 ((numB ([] : List UInt8) : Int))) ?_; clear hF; intro a hF
 refine Vr hF (.bool false) (x_bool (x := decide ((numB ([] : List UInt8) : Int) > 4611686018427387904)) (decide_eq_false (by have := numB_le (l := ([] : List UInt8)) (by simp); omega)) (by kernel_rfl)) ?_; clear hF; intro a hF
 refine L_nil ?_
 refine hK7 _ _ ?_
 refine cond_f hF (by kernel_rfl) (by kernel_rfl) ?_
 refine wp_skip ?_
 refine hK6 _ _ ?_
 refine wp_seq_k fun K8 hK8 => ?_
 refine wp_region_lit ?_
 refine Vp hF (.pointer (some ⟨c, 0, none⟩)) ?_; clear hF; intro a hF
 refine Vp hF (.pointer (some ⟨c, 0, none⟩)) ?_; clear hF; intro a hF
 refine Vp hF (.pointer (some ⟨c, 1, none⟩)) ?_; clear hF; intro a hF
 refine Vr hF (.int .i64 ((k : Int))) (x_load (p := .pointer (some ⟨c, 1, none⟩)) rfl (by kernel_rfl) (run_load1 (by kernel_rfl) ((hO.cell List.mem_cons_self).trans (by kernel_rfl)))) ?_; clear hF; intro a hF
 refine Vp hF (.slice none 0 0) ?_; clear hF; intro a hF
 refine Vp hF (.int .i64 0) ?_; clear hF; intro a hF
 refine Vr hF (.int .i64 ((k : Int))) (x_int (x := IntKind.i64.wrap ((k : Int) + 0)) ((i64In (by omega) (by omega)).trans (by omega)) (by kernel_rfl)) ?_; clear hF; intro a hF
 refine Vp hF (.pointer (some ⟨c, 0, none⟩)) ?_; clear hF; intro a hF
 refine Vp hF (.pointer (some ⟨c, 1, none⟩)) ?_; clear hF; intro a hF
 obtain ⟨W3, hst, hO1⟩ := run_storeAt (P := Tryz.prog) (k := 1) (T := 3) (off := 1) (v := .int .i64 ((k : Int))) (cs := #[.slice p l.length cap, .int .i64 ((k : Int)), eV ea (some 1)]) (cs' := #[.slice p l.length cap, .int .i64 ((k : Int)), eV ea (some 1)]) hO (by kernel_rfl) (by kernel_rfl) (by kernel_rfl) (Nat.le_of_ble_eq_true (by kernel_rfl)) (by kernel_rfl) (.head _)
 refine L_skip hF (by kernel_rfl) (by kernel_rfl) (x_store (p := .pointer (some ⟨c, 1, none⟩)) (v := .int .i64 ((k : Int))) rfl (by kernel_rfl) (by kernel_rfl) hst) (by kernel_rfl) ?_
 clear hst hF; intro a hF; replace hO := hO1; clear hO1
 refine L_nil ?_
 refine hK8 _ _ ?_
 refine wp_seq_k fun K9 hK9 => ?_
 refine wp_region_lit ?_
 refine Vp hF (.int .u64 ((numB ([] : List UInt8) : Int))) ?_; clear hF; intro a hF
 refine Vr hF (.int .i64 0) (x_int (x := IntKind.i64.wrap ((numB ([] : List UInt8) : Int))) (by decide) (by kernel_rfl)) ?_; clear hF; intro a hF
 refine Vp hF (.int .i64 0) ?_; clear hF; intro a hF
 refine L_nil ?_
 refine hK9 _ _ ?_
 refine wp_ret ?_
 replace hO := hO.front (.tail (.head _))
 replace hO := hO.front (.tail (.head _))
 refine ret1 hF (v := .int .i64 0) rfl (resT (by kernel_rfl)) (by refine ⟨?_, hO.sub (.cons_cons _ (.cons_cons _ (List.Sublist.refl _)))⟩; first | rfl | (simp [*]; done)) .ret (.inl rfl)

set_option maxRecDepth 20000 in
theorem cur_Num1_ok (W0 : World) (L : List Chunk) (I : List Nat) (ea : Nat → Addr) (c : Nat) (p : Option Addr) (cap : Nat) (l : List UInt8) (k : Nat) (e : Option Nat) (W : World) (hO : Own W0 noX (.blk c (.cells #[.slice p l.length cap, .int .i64 ((k : Int)), eV ea e] 113 (0, 0)) :: rowL u8L 1 5 p cap l :: L) W) (hk : k ≤ l.length) (hsz : l.length ≤ 1000000) (he : e.isSome = false) (hn : k + 1 ≤ l.length) : Ret Tryz.prog 95 #[.pointer (some ⟨c, 0, none⟩), .int .i64 1] W fun v W' => v = .int .i64 (numB (seg l k 1) : Int) ∧ Own W0 noX (.blk c (.cells #[.slice p l.length cap, .int .i64 (((k + 1 : Nat) : Int)), eV ea none] 113 (0, 0)) :: rowL u8L 1 5 p cap l :: L) W' := by
 refine enter Tryz.func95 rfl (n := 37) rfl (by kernel_rfl) (E0 := [(1, .int .i64 1), (0, .pointer (some ⟨c, 0, none⟩))]) (by kernel_rfl) ?_
 intro a hF; have hO := hO
 refine wp_seq_k fun K1 hK1 => ?_
 refine wp_region_lit ?_
 refine Vp hF (.int .i64 0) ?_; clear hF; intro a hF
 refine L_nil ?_
 refine hK1 _ _ ?_
 refine wp_seq_k fun K2 hK2 => ?_
 refine wp_seq_k fun K3 hK3 => ?_
 refine wp_region_lit ?_
 refine Vp hF (.int .i64 1) ?_; clear hF; intro a hF
 refine Vp hF (.bool false) ?_; clear hF; intro a hF
 refine Vp hF (.bool false) ?_; clear hF; intro a hF
 refine Vp hF (.int .i64 1) ?_; clear hF; intro a hF
 refine Vp hF (.bool false) ?_; clear hF; intro a hF
 refine Vp hF (.bool false) ?_; clear hF; intro a hF
 refine L_nil ?_
 refine hK3 _ _ ?_
 refine cond_f hF (by kernel_rfl) (by kernel_rfl) ?_
 refine wp_skip ?_
 refine hK2 _ _ ?_
 refine wp_seq_k fun K4 hK4 => ?_
 refine wp_region_lit ?_
 refine Vp hF (.pointer (some ⟨c, 0, none⟩)) ?_; clear hF; intro a hF
 refine Vp hF (.int .i64 1) ?_; clear hF; intro a hF
 replace hO := hO.front (.tail (.head _))
 replace hO := hO.front (.tail (.head _))
 refine Lc hF (cur_next_ok W0 _ I ea c p cap l k e 1 W hO (by omega) (by omega) (by assumption) (by assumption)) ?_
 clear hF; rintro _ W1 a ⟨rfl, hk⟩ hF; replace hO := hk; clear hk
 refine Vp hF (.slice (subP p (k + 1) k 1) 1 1) ?_; clear hF; intro a hF
 refine L_nil ?_
 refine hK4 _ _ ?_
 refine wp_seq_k fun K5 hK5 => ?_
 refine wp_region_lit ?_
 refine Vp hF (.slice (subP p (k + 1) k 1) 1 1) ?_; clear hF; intro a hF
 refine Lc hF (oct_number_n (subP p (k + 1) k 1) 1 (seg l k 1) 1 (by have := seg_len hn; omega) W1 (SlAt.dropL (k := 1) (SlAt.takeL (k := 1) (hO.row (List.mem_cons_of_mem _ List.mem_cons_self)) (fun _ => rfl) (k + 1)) (fun _ => rfl) (k + 1) k (by simp only [List.length_take]; omega)) (by have := seg_len hn; omega)) ?_
 clear hF; rintro _ W2 a ⟨rfl, hk⟩ hF
 replace hO := hO.call0 hk; clear hk
 refine Vp hF (.int .u64 ((numB (seg l k 1) : Int))) ?_; clear hF; intro a hF
 refine L_nil ?_
 refine hK5 _ _ ?_
 refine wp_seq_k fun K6 hK6 => ?_
 refine wp_seq_k fun K7 hK7 => ?_
 refine wp_region_lit ?_
 refine Vp hF (.int .u64 ((numB (seg l k 1) : Int))) ?_; clear hF; intro a hF
 refine Vr hF (.bool false) (x_bool (x := decide ((numB (seg l k 1) : Int) > 4611686018427387904)) (decide_eq_false (by have := numB_le (l := (seg l k 1)) (by have := seg_len hn; omega); omega)) (by kernel_rfl)) ?_; clear hF; intro a hF
 refine L_nil ?_
 refine hK7 _ _ ?_
 refine cond_f hF (by kernel_rfl) (by kernel_rfl) ?_
 refine wp_skip ?_
 refine hK6 _ _ ?_
 refine wp_seq_k fun K8 hK8 => ?_
 refine wp_region_lit ?_
 refine Vp hF (.pointer (some ⟨c, 0, none⟩)) ?_; clear hF; intro a hF
 refine Vp hF (.pointer (some ⟨c, 0, none⟩)) ?_; clear hF; intro a hF
 refine Vp hF (.pointer (some ⟨c, 1, none⟩)) ?_; clear hF; intro a hF
 refine Vr hF (.int .i64 ((k : Int))) (x_load (p := .pointer (some ⟨c, 1, none⟩)) rfl (by kernel_rfl) (run_load1 (by kernel_rfl) ((hO.cell List.mem_cons_self).trans (by kernel_rfl)))) ?_; clear hF; intro a hF
 refine Vp hF (.slice (subP p (k + 1) k 1) 1 1) ?_; clear hF; intro a hF
 refine Vp hF (.int .i64 ((1 : Int))) ?_; clear hF; intro a hF
 refine Vr hF (.int .i64 (((k + 1 : Nat) : Int))) (x_int (x := IntKind.i64.wrap ((k : Int) + (1 : Int))) ((i64In (by omega) (by omega)).trans (by omega)) (by kernel_rfl)) ?_; clear hF; intro a hF
 refine Vp hF (.pointer (some ⟨c, 0, none⟩)) ?_; clear hF; intro a hF
 refine Vp hF (.pointer (some ⟨c, 1, none⟩)) ?_; clear hF; intro a hF
 obtain ⟨W3, hst, hO1⟩ := run_storeAt (P := Tryz.prog) (k := 1) (T := 3) (off := 1) (v := .int .i64 (((k + 1 : Nat) : Int))) (cs := #[.slice p l.length cap, .int .i64 ((k : Int)), eV ea e]) (cs' := #[.slice p l.length cap, .int .i64 (((k + 1 : Nat) : Int)), eV ea e]) hO (by kernel_rfl) (by kernel_rfl) (by kernel_rfl) (Nat.le_of_ble_eq_true (by kernel_rfl)) (by kernel_rfl) (.head _)
 refine L_skip hF (by kernel_rfl) (by kernel_rfl) (x_store (p := .pointer (some ⟨c, 1, none⟩)) (v := .int .i64 (((k + 1 : Nat) : Int))) rfl (by kernel_rfl) (by kernel_rfl) hst) (by kernel_rfl) ?_
 clear hst hF; intro a hF; replace hO := hO1; clear hO1
 refine L_nil ?_
 refine hK8 _ _ ?_
 refine wp_seq_k fun K9 hK9 => ?_
 refine wp_region_lit ?_
 refine Vp hF (.int .u64 ((numB (seg l k 1) : Int))) ?_; clear hF; intro a hF
 refine Vr hF (.int .i64 ((numB (seg l k 1) : Int))) (x_int (x := IntKind.i64.wrap ((numB (seg l k 1) : Int))) (i64In (by omega) (by have := numB_le (l := seg l k 1) (by have := seg_len hn; omega); omega)) (by kernel_rfl)) ?_; clear hF; intro a hF
 refine Vp hF (.int .i64 ((numB (seg l k 1) : Int))) ?_; clear hF; intro a hF
 refine L_nil ?_
 refine hK9 _ _ ?_
 refine wp_ret ?_
 replace hO := hO.front (.tail (.head _))
 replace hO := hO.front (.tail (.head _))
 replace hO := hO.front (.tail (.head _))
 replace hO := hO.front (.tail (.head _))
 refine ret1 hF (v := .int .i64 ((numB (seg l k 1) : Int))) rfl (resT (by kernel_rfl)) (by have he' : e = none := (by cases e with | none => rfl | some i => cases he); subst he'; exact ⟨rfl, hO.sub (.cons_cons _ (.cons_cons _ (List.Sublist.refl _)))⟩) .ret (.inl rfl)

set_option maxRecDepth 20000 in
theorem cur_Num2_err (W0 : World) (L : List Chunk) (I : List Nat) (ea : Nat → Addr) (c : Nat) (p : Option Addr) (cap : Nat) (l : List UInt8) (k : Nat) (e : Option Nat) (W : World) (hO : Own W0 noX (.blk c (.cells #[.slice p l.length cap, .int .i64 ((k : Int)), eV ea e] 113 (0, 0)) :: rowL u8L 1 5 p cap l :: L) W) (hk : k ≤ l.length) (hsz : l.length ≤ 1000000) (he : e.isSome = true) : Ret Tryz.prog 95 #[.pointer (some ⟨c, 0, none⟩), .int .i64 2] W fun v W' => v = .int .i64 0 ∧ Own W0 noX (.blk c (.cells #[.slice p l.length cap, .int .i64 ((k : Int)), eV ea e] 113 (0, 0)) :: rowL u8L 1 5 p cap l :: L) W' := by
 refine enter Tryz.func95 rfl (n := 37) rfl (by kernel_rfl) (E0 := [(1, .int .i64 2), (0, .pointer (some ⟨c, 0, none⟩))]) (by kernel_rfl) ?_
 intro a hF; have hO := hO
 refine wp_seq_k fun K1 hK1 => ?_
 refine wp_region_lit ?_
 refine Vp hF (.int .i64 0) ?_; clear hF; intro a hF
 refine L_nil ?_
 refine hK1 _ _ ?_
 refine wp_seq_k fun K2 hK2 => ?_
 refine wp_seq_k fun K3 hK3 => ?_
 refine wp_region_lit ?_
 refine Vp hF (.int .i64 2) ?_; clear hF; intro a hF
 refine Vp hF (.bool false) ?_; clear hF; intro a hF
 refine Vp hF (.bool false) ?_; clear hF; intro a hF
 refine Vp hF (.int .i64 2) ?_; clear hF; intro a hF
 refine Vp hF (.bool false) ?_; clear hF; intro a hF
 refine Vp hF (.bool false) ?_; clear hF; intro a hF
 refine L_nil ?_
 refine hK3 _ _ ?_
 refine cond_f hF (by kernel_rfl) (by kernel_rfl) ?_
 refine wp_skip ?_
 refine hK2 _ _ ?_
 refine wp_seq_k fun K4 hK4 => ?_
 refine wp_region_lit ?_
 refine Vp hF (.pointer (some ⟨c, 0, none⟩)) ?_; clear hF; intro a hF
 refine Vp hF (.int .i64 2) ?_; clear hF; intro a hF
 replace hO := hO.front (.tail (.head _))
 replace hO := hO.front (.tail (.head _))
 refine Lc hF (cur_next_err W0 _ I ea c p cap l k e 2 W hO (by omega) (by omega) (by assumption)) ?_
 clear hF; rintro _ W1 a ⟨rfl, hk⟩ hF; replace hO := hk; clear hk
 refine Vp hF (.slice none 0 0) ?_; clear hF; intro a hF
 refine L_nil ?_
 refine hK4 _ _ ?_
 refine wp_seq_k fun K5 hK5 => ?_
 refine wp_region_lit ?_
 refine Vp hF (.slice none 0 0) ?_; clear hF; intro a hF
 refine Lc hF (oct_number_n (none) 0 ([] : List UInt8) 0 (by simp) W1 (SlAt.nil _ _) (by simp)) ?_
 clear hF; rintro _ W2 a ⟨rfl, hk⟩ hF
 replace hO := hO.call0 hk; clear hk
 refine Vp hF (.int .u64 ((numB ([] : List UInt8) : Int))) ?_; clear hF; intro a hF
 refine L_nil ?_
 refine hK5 _ _ ?_
 refine wp_seq_k fun K6 hK6 => ?_
 refine wp_seq_k fun K7 hK7 => ?_
 refine wp_region_lit ?_
 refine Vp hF (.int .u64 ((numB ([] : List UInt8) : Int))) ?_; clear hF; intro a hF
 refine Vr hF (.bool false) (x_bool (x := decide ((numB ([] : List UInt8) : Int) > 4611686018427387904)) (decide_eq_false (by have := numB_le (l := ([] : List UInt8)) (by simp); omega)) (by kernel_rfl)) ?_; clear hF; intro a hF
 refine L_nil ?_
 refine hK7 _ _ ?_
 refine cond_f hF (by kernel_rfl) (by kernel_rfl) ?_
 refine wp_skip ?_
 refine hK6 _ _ ?_
 refine wp_seq_k fun K8 hK8 => ?_
 refine wp_region_lit ?_
 refine Vp hF (.pointer (some ⟨c, 0, none⟩)) ?_; clear hF; intro a hF
 refine Vp hF (.pointer (some ⟨c, 0, none⟩)) ?_; clear hF; intro a hF
 refine Vp hF (.pointer (some ⟨c, 1, none⟩)) ?_; clear hF; intro a hF
 refine Vr hF (.int .i64 ((k : Int))) (x_load (p := .pointer (some ⟨c, 1, none⟩)) rfl (by kernel_rfl) (run_load1 (by kernel_rfl) ((hO.cell List.mem_cons_self).trans (by kernel_rfl)))) ?_; clear hF; intro a hF
 refine Vp hF (.slice none 0 0) ?_; clear hF; intro a hF
 refine Vp hF (.int .i64 0) ?_; clear hF; intro a hF
 refine Vr hF (.int .i64 ((k : Int))) (x_int (x := IntKind.i64.wrap ((k : Int) + 0)) ((i64In (by omega) (by omega)).trans (by omega)) (by kernel_rfl)) ?_; clear hF; intro a hF
 refine Vp hF (.pointer (some ⟨c, 0, none⟩)) ?_; clear hF; intro a hF
 refine Vp hF (.pointer (some ⟨c, 1, none⟩)) ?_; clear hF; intro a hF
 obtain ⟨W3, hst, hO1⟩ := run_storeAt (P := Tryz.prog) (k := 1) (T := 3) (off := 1) (v := .int .i64 ((k : Int))) (cs := #[.slice p l.length cap, .int .i64 ((k : Int)), eV ea e]) (cs' := #[.slice p l.length cap, .int .i64 ((k : Int)), eV ea e]) hO (by kernel_rfl) (by kernel_rfl) (by kernel_rfl) (Nat.le_of_ble_eq_true (by kernel_rfl)) (by kernel_rfl) (.head _)
 refine L_skip hF (by kernel_rfl) (by kernel_rfl) (x_store (p := .pointer (some ⟨c, 1, none⟩)) (v := .int .i64 ((k : Int))) rfl (by kernel_rfl) (by kernel_rfl) hst) (by kernel_rfl) ?_
 clear hst hF; intro a hF; replace hO := hO1; clear hO1
 refine L_nil ?_
 refine hK8 _ _ ?_
 refine wp_seq_k fun K9 hK9 => ?_
 refine wp_region_lit ?_
 refine Vp hF (.int .u64 ((numB ([] : List UInt8) : Int))) ?_; clear hF; intro a hF
 refine Vr hF (.int .i64 0) (x_int (x := IntKind.i64.wrap ((numB ([] : List UInt8) : Int))) (by decide) (by kernel_rfl)) ?_; clear hF; intro a hF
 refine Vp hF (.int .i64 0) ?_; clear hF; intro a hF
 refine L_nil ?_
 refine hK9 _ _ ?_
 refine wp_ret ?_
 replace hO := hO.front (.tail (.head _))
 replace hO := hO.front (.tail (.head _))
 refine ret1 hF (v := .int .i64 0) rfl (resT (by kernel_rfl)) (by refine ⟨?_, hO.sub (.cons_cons _ (.cons_cons _ (List.Sublist.refl _)))⟩; first | rfl | (simp [*]; done)) .ret (.inl rfl)

set_option maxRecDepth 20000 in
theorem cur_Num2_short (W0 : World) (L : List Chunk) (I : List Nat) (ea : Nat → Addr) (c : Nat) (p : Option Addr) (cap : Nat) (l : List UInt8) (k : Nat) (e : Option Nat) (W : World) (hO : Own W0 noX (.blk c (.cells #[.slice p l.length cap, .int .i64 ((k : Int)), eV ea e] 113 (0, 0)) :: rowL u8L 1 5 p cap l :: L) W) (hk : k ≤ l.length) (hsz : l.length ≤ 1000000) (he : e.isSome = false) (hn : ¬ k + 2 ≤ l.length) (hE : Errs I ea W0) (h1 : I.contains 1 = true) : Ret Tryz.prog 95 #[.pointer (some ⟨c, 0, none⟩), .int .i64 2] W fun v W' => v = .int .i64 0 ∧ Own W0 noX (.blk c (.cells #[.slice p l.length cap, .int .i64 ((k : Int)), eV ea (some 1)] 113 (0, 0)) :: rowL u8L 1 5 p cap l :: L) W' := by
 refine enter Tryz.func95 rfl (n := 37) rfl (by kernel_rfl) (E0 := [(1, .int .i64 2), (0, .pointer (some ⟨c, 0, none⟩))]) (by kernel_rfl) ?_
 intro a hF; have hO := hO
 refine wp_seq_k fun K1 hK1 => ?_
 refine wp_region_lit ?_
 refine Vp hF (.int .i64 0) ?_; clear hF; intro a hF
 refine L_nil ?_
 refine hK1 _ _ ?_
 refine wp_seq_k fun K2 hK2 => ?_
 refine wp_seq_k fun K3 hK3 => ?_
 refine wp_region_lit ?_
 refine Vp hF (.int .i64 2) ?_; clear hF; intro a hF
 refine Vp hF (.bool false) ?_; clear hF; intro a hF
 refine Vp hF (.bool false) ?_; clear hF; intro a hF
 refine Vp hF (.int .i64 2) ?_; clear hF; intro a hF
 refine Vp hF (.bool false) ?_; clear hF; intro a hF
 refine Vp hF (.bool false) ?_; clear hF; intro a hF
 refine L_nil ?_
 refine hK3 _ _ ?_
 refine cond_f hF (by kernel_rfl) (by kernel_rfl) ?_
 refine wp_skip ?_
 refine hK2 _ _ ?_
 refine wp_seq_k fun K4 hK4 => ?_
 refine wp_region_lit ?_
 refine Vp hF (.pointer (some ⟨c, 0, none⟩)) ?_; clear hF; intro a hF
 refine Vp hF (.int .i64 2) ?_; clear hF; intro a hF
 replace hO := hO.front (.tail (.head _))
 replace hO := hO.front (.tail (.head _))
 refine Lc hF (cur_next_short W0 _ I ea c p cap l k e 2 W hO (by omega) (by omega) (by assumption) (by assumption) hE h1) ?_
 clear hF; rintro _ W1 a ⟨rfl, hk⟩ hF; replace hO := hk; clear hk
 refine Vp hF (.slice none 0 0) ?_; clear hF; intro a hF
 refine L_nil ?_
 refine hK4 _ _ ?_
 refine wp_seq_k fun K5 hK5 => ?_
 refine wp_region_lit ?_
 refine Vp hF (.slice none 0 0) ?_; clear hF; intro a hF
 refine Lc hF (oct_number_n (none) 0 ([] : List UInt8) 0 (by simp) W1 (SlAt.nil _ _) (by simp)) ?_
 clear hF; rintro _ W2 a ⟨rfl, hk⟩ hF
 replace hO := hO.call0 hk; clear hk
 refine Vp hF (.int .u64 ((numB ([] : List UInt8) : Int))) ?_; clear hF; intro a hF
 refine L_nil ?_
 refine hK5 _ _ ?_
 refine wp_seq_k fun K6 hK6 => ?_
 refine wp_seq_k fun K7 hK7 => ?_
 refine wp_region_lit ?_
 refine Vp hF (.int .u64 ((numB ([] : List UInt8) : Int))) ?_; clear hF; intro a hF
 refine Vr hF (.bool false) (x_bool (x := decide ((numB ([] : List UInt8) : Int) > 4611686018427387904)) (decide_eq_false (by have := numB_le (l := ([] : List UInt8)) (by simp); omega)) (by kernel_rfl)) ?_; clear hF; intro a hF
 refine L_nil ?_
 refine hK7 _ _ ?_
 refine cond_f hF (by kernel_rfl) (by kernel_rfl) ?_
 refine wp_skip ?_
 refine hK6 _ _ ?_
 refine wp_seq_k fun K8 hK8 => ?_
 refine wp_region_lit ?_
 refine Vp hF (.pointer (some ⟨c, 0, none⟩)) ?_; clear hF; intro a hF
 refine Vp hF (.pointer (some ⟨c, 0, none⟩)) ?_; clear hF; intro a hF
 refine Vp hF (.pointer (some ⟨c, 1, none⟩)) ?_; clear hF; intro a hF
 refine Vr hF (.int .i64 ((k : Int))) (x_load (p := .pointer (some ⟨c, 1, none⟩)) rfl (by kernel_rfl) (run_load1 (by kernel_rfl) ((hO.cell List.mem_cons_self).trans (by kernel_rfl)))) ?_; clear hF; intro a hF
 refine Vp hF (.slice none 0 0) ?_; clear hF; intro a hF
 refine Vp hF (.int .i64 0) ?_; clear hF; intro a hF
 refine Vr hF (.int .i64 ((k : Int))) (x_int (x := IntKind.i64.wrap ((k : Int) + 0)) ((i64In (by omega) (by omega)).trans (by omega)) (by kernel_rfl)) ?_; clear hF; intro a hF
 refine Vp hF (.pointer (some ⟨c, 0, none⟩)) ?_; clear hF; intro a hF
 refine Vp hF (.pointer (some ⟨c, 1, none⟩)) ?_; clear hF; intro a hF
 obtain ⟨W3, hst, hO1⟩ := run_storeAt (P := Tryz.prog) (k := 1) (T := 3) (off := 1) (v := .int .i64 ((k : Int))) (cs := #[.slice p l.length cap, .int .i64 ((k : Int)), eV ea (some 1)]) (cs' := #[.slice p l.length cap, .int .i64 ((k : Int)), eV ea (some 1)]) hO (by kernel_rfl) (by kernel_rfl) (by kernel_rfl) (Nat.le_of_ble_eq_true (by kernel_rfl)) (by kernel_rfl) (.head _)
 refine L_skip hF (by kernel_rfl) (by kernel_rfl) (x_store (p := .pointer (some ⟨c, 1, none⟩)) (v := .int .i64 ((k : Int))) rfl (by kernel_rfl) (by kernel_rfl) hst) (by kernel_rfl) ?_
 clear hst hF; intro a hF; replace hO := hO1; clear hO1
 refine L_nil ?_
 refine hK8 _ _ ?_
 refine wp_seq_k fun K9 hK9 => ?_
 refine wp_region_lit ?_
 refine Vp hF (.int .u64 ((numB ([] : List UInt8) : Int))) ?_; clear hF; intro a hF
 refine Vr hF (.int .i64 0) (x_int (x := IntKind.i64.wrap ((numB ([] : List UInt8) : Int))) (by decide) (by kernel_rfl)) ?_; clear hF; intro a hF
 refine Vp hF (.int .i64 0) ?_; clear hF; intro a hF
 refine L_nil ?_
 refine hK9 _ _ ?_
 refine wp_ret ?_
 replace hO := hO.front (.tail (.head _))
 replace hO := hO.front (.tail (.head _))
 refine ret1 hF (v := .int .i64 0) rfl (resT (by kernel_rfl)) (by refine ⟨?_, hO.sub (.cons_cons _ (.cons_cons _ (List.Sublist.refl _)))⟩; first | rfl | (simp [*]; done)) .ret (.inl rfl)

set_option maxRecDepth 20000 in
theorem cur_Num2_ok (W0 : World) (L : List Chunk) (I : List Nat) (ea : Nat → Addr) (c : Nat) (p : Option Addr) (cap : Nat) (l : List UInt8) (k : Nat) (e : Option Nat) (W : World) (hO : Own W0 noX (.blk c (.cells #[.slice p l.length cap, .int .i64 ((k : Int)), eV ea e] 113 (0, 0)) :: rowL u8L 1 5 p cap l :: L) W) (hk : k ≤ l.length) (hsz : l.length ≤ 1000000) (he : e.isSome = false) (hn : k + 2 ≤ l.length) : Ret Tryz.prog 95 #[.pointer (some ⟨c, 0, none⟩), .int .i64 2] W fun v W' => v = .int .i64 (numB (seg l k 2) : Int) ∧ Own W0 noX (.blk c (.cells #[.slice p l.length cap, .int .i64 (((k + 2 : Nat) : Int)), eV ea none] 113 (0, 0)) :: rowL u8L 1 5 p cap l :: L) W' := by
 refine enter Tryz.func95 rfl (n := 37) rfl (by kernel_rfl) (E0 := [(1, .int .i64 2), (0, .pointer (some ⟨c, 0, none⟩))]) (by kernel_rfl) ?_
 intro a hF; have hO := hO
 refine wp_seq_k fun K1 hK1 => ?_
 refine wp_region_lit ?_
 refine Vp hF (.int .i64 0) ?_; clear hF; intro a hF
 refine L_nil ?_
 refine hK1 _ _ ?_
 refine wp_seq_k fun K2 hK2 => ?_
 refine wp_seq_k fun K3 hK3 => ?_
 refine wp_region_lit ?_
 refine Vp hF (.int .i64 2) ?_; clear hF; intro a hF
 refine Vp hF (.bool false) ?_; clear hF; intro a hF
 refine Vp hF (.bool false) ?_; clear hF; intro a hF
 refine Vp hF (.int .i64 2) ?_; clear hF; intro a hF
 refine Vp hF (.bool false) ?_; clear hF; intro a hF
 refine Vp hF (.bool false) ?_; clear hF; intro a hF
 refine L_nil ?_
 refine hK3 _ _ ?_
 refine cond_f hF (by kernel_rfl) (by kernel_rfl) ?_
 refine wp_skip ?_
 refine hK2 _ _ ?_
 refine wp_seq_k fun K4 hK4 => ?_
 refine wp_region_lit ?_
 refine Vp hF (.pointer (some ⟨c, 0, none⟩)) ?_; clear hF; intro a hF
 refine Vp hF (.int .i64 2) ?_; clear hF; intro a hF
 replace hO := hO.front (.tail (.head _))
 replace hO := hO.front (.tail (.head _))
 refine Lc hF (cur_next_ok W0 _ I ea c p cap l k e 2 W hO (by omega) (by omega) (by assumption) (by assumption)) ?_
 clear hF; rintro _ W1 a ⟨rfl, hk⟩ hF; replace hO := hk; clear hk
 refine Vp hF (.slice (subP p (k + 2) k 1) 2 2) ?_; clear hF; intro a hF
 refine L_nil ?_
 refine hK4 _ _ ?_
 refine wp_seq_k fun K5 hK5 => ?_
 refine wp_region_lit ?_
 refine Vp hF (.slice (subP p (k + 2) k 1) 2 2) ?_; clear hF; intro a hF
 refine Lc hF (oct_number_n (subP p (k + 2) k 1) 2 (seg l k 2) 2 (by have := seg_len hn; omega) W1 (SlAt.dropL (k := 1) (SlAt.takeL (k := 1) (hO.row (List.mem_cons_of_mem _ List.mem_cons_self)) (fun _ => rfl) (k + 2)) (fun _ => rfl) (k + 2) k (by simp only [List.length_take]; omega)) (by have := seg_len hn; omega)) ?_
 clear hF; rintro _ W2 a ⟨rfl, hk⟩ hF
 replace hO := hO.call0 hk; clear hk
 refine Vp hF (.int .u64 ((numB (seg l k 2) : Int))) ?_; clear hF; intro a hF
 refine L_nil ?_
 refine hK5 _ _ ?_
 refine wp_seq_k fun K6 hK6 => ?_
 refine wp_seq_k fun K7 hK7 => ?_
 refine wp_region_lit ?_
 refine Vp hF (.int .u64 ((numB (seg l k 2) : Int))) ?_; clear hF; intro a hF
 refine Vr hF (.bool false) (x_bool (x := decide ((numB (seg l k 2) : Int) > 4611686018427387904)) (decide_eq_false (by have := numB_le (l := (seg l k 2)) (by have := seg_len hn; omega); omega)) (by kernel_rfl)) ?_; clear hF; intro a hF
 refine L_nil ?_
 refine hK7 _ _ ?_
 refine cond_f hF (by kernel_rfl) (by kernel_rfl) ?_
 refine wp_skip ?_
 refine hK6 _ _ ?_
 refine wp_seq_k fun K8 hK8 => ?_
 refine wp_region_lit ?_
 refine Vp hF (.pointer (some ⟨c, 0, none⟩)) ?_; clear hF; intro a hF
 refine Vp hF (.pointer (some ⟨c, 0, none⟩)) ?_; clear hF; intro a hF
 refine Vp hF (.pointer (some ⟨c, 1, none⟩)) ?_; clear hF; intro a hF
 refine Vr hF (.int .i64 ((k : Int))) (x_load (p := .pointer (some ⟨c, 1, none⟩)) rfl (by kernel_rfl) (run_load1 (by kernel_rfl) ((hO.cell List.mem_cons_self).trans (by kernel_rfl)))) ?_; clear hF; intro a hF
 refine Vp hF (.slice (subP p (k + 2) k 1) 2 2) ?_; clear hF; intro a hF
 refine Vp hF (.int .i64 ((2 : Int))) ?_; clear hF; intro a hF
 refine Vr hF (.int .i64 (((k + 2 : Nat) : Int))) (x_int (x := IntKind.i64.wrap ((k : Int) + (2 : Int))) ((i64In (by omega) (by omega)).trans (by omega)) (by kernel_rfl)) ?_; clear hF; intro a hF
 refine Vp hF (.pointer (some ⟨c, 0, none⟩)) ?_; clear hF; intro a hF
 refine Vp hF (.pointer (some ⟨c, 1, none⟩)) ?_; clear hF; intro a hF
 obtain ⟨W3, hst, hO1⟩ := run_storeAt (P := Tryz.prog) (k := 1) (T := 3) (off := 1) (v := .int .i64 (((k + 2 : Nat) : Int))) (cs := #[.slice p l.length cap, .int .i64 ((k : Int)), eV ea e]) (cs' := #[.slice p l.length cap, .int .i64 (((k + 2 : Nat) : Int)), eV ea e]) hO (by kernel_rfl) (by kernel_rfl) (by kernel_rfl) (Nat.le_of_ble_eq_true (by kernel_rfl)) (by kernel_rfl) (.head _)
 refine L_skip hF (by kernel_rfl) (by kernel_rfl) (x_store (p := .pointer (some ⟨c, 1, none⟩)) (v := .int .i64 (((k + 2 : Nat) : Int))) rfl (by kernel_rfl) (by kernel_rfl) hst) (by kernel_rfl) ?_
 clear hst hF; intro a hF; replace hO := hO1; clear hO1
 refine L_nil ?_
 refine hK8 _ _ ?_
 refine wp_seq_k fun K9 hK9 => ?_
 refine wp_region_lit ?_
 refine Vp hF (.int .u64 ((numB (seg l k 2) : Int))) ?_; clear hF; intro a hF
 refine Vr hF (.int .i64 ((numB (seg l k 2) : Int))) (x_int (x := IntKind.i64.wrap ((numB (seg l k 2) : Int))) (i64In (by omega) (by have := numB_le (l := seg l k 2) (by have := seg_len hn; omega); omega)) (by kernel_rfl)) ?_; clear hF; intro a hF
 refine Vp hF (.int .i64 ((numB (seg l k 2) : Int))) ?_; clear hF; intro a hF
 refine L_nil ?_
 refine hK9 _ _ ?_
 refine wp_ret ?_
 replace hO := hO.front (.tail (.head _))
 replace hO := hO.front (.tail (.head _))
 replace hO := hO.front (.tail (.head _))
 replace hO := hO.front (.tail (.head _))
 refine ret1 hF (v := .int .i64 ((numB (seg l k 2) : Int))) rfl (resT (by kernel_rfl)) (by have he' : e = none := (by cases e with | none => rfl | some i => cases he); subst he'; exact ⟨rfl, hO.sub (.cons_cons _ (.cons_cons _ (List.Sublist.refl _)))⟩) .ret (.inl rfl)

set_option maxRecDepth 20000 in
theorem cloneB_nil (cap : Nat) (W : World) : Ret Tryz.prog 94 #[.slice none 0 cap] W fun v W' => v = .slice none 0 0 ∧ Own W noX [] W' := by
 refine enter Tryz.func94 rfl (n := 8) rfl (by kernel_rfl) (E0 := [(0, .slice none 0 cap)]) (by kernel_rfl) ?_
 intro a hF; have hO := Own.start W noX
 refine wp_seq_k fun K1 hK1 => ?_
 refine wp_region_lit ?_
 refine Vp hF (.slice none 0 0) ?_; clear hF; intro a hF
 refine L_nil ?_
 refine hK1 _ _ ?_
 refine wp_seq_k fun K2 hK2 => ?_
 refine wp_seq_k fun K3 hK3 => ?_
 refine wp_region_lit ?_
 refine Vp hF (.slice none 0 cap) ?_; clear hF; intro a hF
 refine Vp hF (.bool true) ?_; clear hF; intro a hF
 refine L_nil ?_
 refine hK3 _ _ ?_
 refine cond_t hF (by kernel_rfl) (by kernel_rfl) ?_
 refine wp_seq_k fun K4 hK4 => ?_
 refine wp_region_lit ?_
 refine Vp hF (.slice none 0 0) ?_; clear hF; intro a hF
 refine L_nil ?_
 refine hK4 _ _ ?_
 refine wp_ret ?_
 refine then_ret ?_
 refine ret1 hF (v := .slice none 0 0) rfl (resT (by kernel_rfl)) (by refine ⟨?_, hO.nil⟩; first | rfl | (simp [*]; done)) .ret (.inl rfl)

set_option maxRecDepth 20000 in
theorem cloneB_some (pa : Addr) (cap : Nat) (l : List UInt8) (W : World) (hl : SlAt W (some pa) (l.flatMap u8L)) (hn : l.length ≤ 1000000) : Ret Tryz.prog 94 #[.slice (some pa) l.length cap] W fun v W' => ∃ q qc, v = .slice q l.length qc ∧ Own W noX [rowL u8L 1 5 q qc l] W' := by
 refine enter Tryz.func94 rfl (n := 8) rfl (by kernel_rfl) (E0 := [(0, .slice (some pa) l.length cap)]) (by kernel_rfl) ?_
 intro a hF; have hO := Own.start W noX
 refine wp_seq_k fun K1 hK1 => ?_
 refine wp_region_lit ?_
 refine Vp hF (.slice none 0 0) ?_; clear hF; intro a hF
 refine L_nil ?_
 refine hK1 _ _ ?_
 refine wp_seq_k fun K2 hK2 => ?_
 refine wp_seq_k fun K3 hK3 => ?_
 refine wp_region_lit ?_
 refine Vp hF (.slice (some pa) l.length cap) ?_; clear hF; intro a hF
 refine Vp hF (.bool false) ?_; clear hF; intro a hF
 refine L_nil ?_
 refine hK3 _ _ ?_
 refine cond_f hF (by kernel_rfl) (by kernel_rfl) ?_
 refine wp_skip ?_
 refine hK2 _ _ ?_
 refine wp_seq_k fun K4 hK4 => ?_
 refine wp_region_lit ?_
 refine L_new hF hO (by kernel_rfl) (by kernel_rfl) (vf := fun b => .slice (some ⟨b, 0, none⟩) 0 0) (ob := .cells #[] 5) (by kernel_rfl) (by kernel_rfl) ?_
 clear hF hO; intro b1 W1 a hO hF
 refine Vp hF (.slice (some pa) l.length cap) ?_; clear hF; intro a hF
 replace hO := hO.asRow (k := 1) (cap := 0) u8L ([] : List UInt8) (.head _) (by decide) (by kernel_rfl) (by decide) (by kernel_rfl)
 obtain ⟨p1, cap1, W2, hap, hO1, -⟩ := run_append_row (P := Tryz.prog) (ty := 46) (t := 46) (z := .int .u8 0) (k := 1) (bytes := 1) (q := some pa) (ys := l) (cq := cap) hO (.head _) (by kernel_rfl) (by kernel_rfl) (by kernel_rfl) (by decide) (fun _ => rfl) (fun _ => rfl) (hl.own hO) (by (try simp only [List.length_append, List.length_take, List.length_drop, List.length_cons, List.length_nil, maxLen]); omega) (by (try simp only [List.length_append, List.length_take, List.length_drop, List.length_cons, List.length_nil, maxLen]); omega)
 refine L_valW hF (by kernel_rfl) (by kernel_rfl) (x_app hap rfl (by kernel_rfl) (by kernel_rfl) rfl) (by kernel_rfl) ?_
 clear hap hF; intro a hF; replace hO := hO1; clear hO1
 refine Vp hF (.slice p1 l.length cap1) ?_; clear hF; intro a hF
 refine L_nil ?_
 refine hK4 _ _ ?_
 refine wp_ret ?_
 refine ret1 hF (v := .slice p1 l.length cap1) rfl (resT (by kernel_rfl)) (by exact ⟨_, _, rfl, hO.sub (.cons_cons _ (List.nil_sublist _))⟩) .ret (.inl rfl)

theorem cloneB (p : Option Addr) (cap : Nat) (l : List UInt8) (W : World) (hl : SlAt W p (l.flatMap u8L)) (hn : l.length ≤ 1000000) : Ret Tryz.prog 94 #[.slice p l.length cap] W fun v W' => ∃ q qc, v = .slice q l.length qc ∧ Own W noX [rowL u8L 1 5 q qc l] W' := by
  cases p with
  | none =>
    cases l with
    | nil => exact (cloneB_nil cap W).mono fun v W' h => ⟨none, 0, h.1, h.2.nilRow _ _ _⟩
    | cons a t => exact absurd (SlAt.ne (k := 1) (i := 0) hl (fun _ => rfl) (by decide) (by simp)) (by simp)
  | some pa => exact cloneB_some pa cap l W hl hn

set_option maxRecDepth 20000 in
theorem bclone_nil (cap : Nat) (W : World) : Ret Tryz.prog 99 #[.slice none 0 cap] W fun v W' => v = .slice none 0 0 ∧ Own W noX [] W' := by
 refine enter Tryz.func99 rfl (n := 8) rfl (by kernel_rfl) (E0 := [(0, .slice none 0 cap)]) (by kernel_rfl) ?_
 intro a hF; have hO := Own.start W noX
 refine wp_seq_k fun K1 hK1 => ?_
 refine wp_region_lit ?_
 refine Vp hF (.slice none 0 0) ?_; clear hF; intro a hF
 refine L_nil ?_
 refine hK1 _ _ ?_
 refine wp_seq_k fun K2 hK2 => ?_
 refine wp_seq_k fun K3 hK3 => ?_
 refine wp_region_lit ?_
 refine Vp hF (.slice none 0 cap) ?_; clear hF; intro a hF
 refine Vp hF (.bool true) ?_; clear hF; intro a hF
 refine L_nil ?_
 refine hK3 _ _ ?_
 refine cond_t hF (by kernel_rfl) (by kernel_rfl) ?_
 refine wp_seq_k fun K4 hK4 => ?_
 refine wp_region_lit ?_
 refine Vp hF (.slice none 0 0) ?_; clear hF; intro a hF
 refine L_nil ?_
 refine hK4 _ _ ?_
 refine wp_ret ?_
 refine then_ret ?_
 refine ret1 hF (v := .slice none 0 0) rfl (resT (by kernel_rfl)) (by refine ⟨?_, hO.nil⟩; first | rfl | (simp [*]; done)) .ret (.inl rfl)

set_option maxRecDepth 20000 in
theorem bclone_some (pa : Addr) (cap : Nat) (l : List UInt8) (W : World) (hl : SlAt W (some pa) (l.flatMap u8L)) (hn : l.length ≤ 1000000) : Ret Tryz.prog 99 #[.slice (some pa) l.length cap] W fun v W' => ∃ q qc, v = .slice q l.length qc ∧ Own W noX [rowL u8L 1 5 q qc l] W' := by
 refine enter Tryz.func99 rfl (n := 8) rfl (by kernel_rfl) (E0 := [(0, .slice (some pa) l.length cap)]) (by kernel_rfl) ?_
 intro a hF; have hO := Own.start W noX
 refine wp_seq_k fun K1 hK1 => ?_
 refine wp_region_lit ?_
 refine Vp hF (.slice none 0 0) ?_; clear hF; intro a hF
 refine L_nil ?_
 refine hK1 _ _ ?_
 refine wp_seq_k fun K2 hK2 => ?_
 refine wp_seq_k fun K3 hK3 => ?_
 refine wp_region_lit ?_
 refine Vp hF (.slice (some pa) l.length cap) ?_; clear hF; intro a hF
 refine Vp hF (.bool false) ?_; clear hF; intro a hF
 refine L_nil ?_
 refine hK3 _ _ ?_
 refine cond_f hF (by kernel_rfl) (by kernel_rfl) ?_
 refine wp_skip ?_
 refine hK2 _ _ ?_
 refine wp_seq_k fun K4 hK4 => ?_
 refine wp_region_lit ?_
 refine L_new hF hO (by kernel_rfl) (by kernel_rfl) (vf := fun b => .slice (some ⟨b, 0, none⟩) 0 0) (ob := .cells #[] 5) (by kernel_rfl) (by kernel_rfl) ?_
 clear hF hO; intro b1 W1 a hO hF
 refine Vp hF (.slice (some pa) l.length cap) ?_; clear hF; intro a hF
 replace hO := hO.asRow (k := 1) (cap := 0) u8L ([] : List UInt8) (.head _) (by decide) (by kernel_rfl) (by decide) (by kernel_rfl)
 obtain ⟨p1, cap1, W2, hap, hO1, -⟩ := run_append_row (P := Tryz.prog) (ty := 46) (t := 46) (z := .int .u8 0) (k := 1) (bytes := 1) (q := some pa) (ys := l) (cq := cap) hO (.head _) (by kernel_rfl) (by kernel_rfl) (by kernel_rfl) (by decide) (fun _ => rfl) (fun _ => rfl) (hl.own hO) (by (try simp only [List.length_append, List.length_take, List.length_drop, List.length_cons, List.length_nil, maxLen]); omega) (by (try simp only [List.length_append, List.length_take, List.length_drop, List.length_cons, List.length_nil, maxLen]); omega)
 refine L_valW hF (by kernel_rfl) (by kernel_rfl) (x_app hap rfl (by kernel_rfl) (by kernel_rfl) rfl) (by kernel_rfl) ?_
 clear hap hF; intro a hF; replace hO := hO1; clear hO1
 refine Vp hF (.slice p1 l.length cap1) ?_; clear hF; intro a hF
 refine L_nil ?_
 refine hK4 _ _ ?_
 refine wp_ret ?_
 refine ret1 hF (v := .slice p1 l.length cap1) rfl (resT (by kernel_rfl)) (by exact ⟨_, _, rfl, hO.sub (.cons_cons _ (List.nil_sublist _))⟩) .ret (.inl rfl)

theorem bclone (p : Option Addr) (cap : Nat) (l : List UInt8) (W : World) (hl : SlAt W p (l.flatMap u8L)) (hn : l.length ≤ 1000000) : Ret Tryz.prog 99 #[.slice p l.length cap] W fun v W' => ∃ q qc, v = .slice q l.length qc ∧ Own W noX [rowL u8L 1 5 q qc l] W' := by
  cases p with
  | none =>
    cases l with
    | nil => exact (bclone_nil cap W).mono fun v W' h => ⟨none, 0, h.1, h.2.nilRow _ _ _⟩
    | cons a t => exact absurd (SlAt.ne (k := 1) (i := 0) hl (fun _ => rfl) (by decide) (by simp)) (by simp)
  | some pa => exact bclone_some pa cap l W hl hn

theorem cloneB_n (p : Option Addr) (cap : Nat) (l : List UInt8) (m : Nat) (he : m = l.length) (W : World) (hl : SlAt W p (l.flatMap u8L)) (hn : l.length ≤ 1000000) : Ret Tryz.prog 94 #[.slice p m cap] W fun v W' => ∃ q qc, v = .slice q m qc ∧ Own W noX [rowL u8L 1 5 q qc l] W' := by
  subst he
  exact cloneB p cap l W hl hn
theorem bclone_n (p : Option Addr) (cap : Nat) (l : List UInt8) (m : Nat) (he : m = l.length) (W : World) (hl : SlAt W p (l.flatMap u8L)) (hn : l.length ≤ 1000000) : Ret Tryz.prog 99 #[.slice p m cap] W fun v W' => ∃ q qc, v = .slice q m qc ∧ Own W noX [rowL u8L 1 5 q qc l] W' := by
  subst he
  exact bclone p cap l W hl hn
set_option maxRecDepth 20000 in
theorem cur_Bytes_err (W0 : World) (L : List Chunk) (I : List Nat) (ea : Nat → Addr) (c : Nat) (p : Option Addr) (cap : Nat) (l : List UInt8) (k : Nat) (e : Option Nat) (n : Nat) (W : World) (hO : Own W0 noX (.blk c (.cells #[.slice p l.length cap, .int .i64 ((k : Int)), eV ea e] 113 (0, 0)) :: rowL u8L 1 5 p cap l :: L) W) (hk : k ≤ l.length) (hsz : l.length ≤ 1000000) (he : e.isSome = true) : Ret Tryz.prog 100 #[.pointer (some ⟨c, 0, none⟩), .int .i64 ((n : Int))] W fun v W' => v = .slice none 0 0 ∧ Own W0 noX (.blk c (.cells #[.slice p l.length cap, .int .i64 ((k : Int)), eV ea e] 113 (0, 0)) :: rowL u8L 1 5 p cap l :: L) W' := by
 refine enter Tryz.func100 rfl (n := 20) rfl (by kernel_rfl) (E0 := [(1, .int .i64 ((n : Int))), (0, .pointer (some ⟨c, 0, none⟩))]) (by kernel_rfl) ?_
 intro a hF; have hO := hO
 refine wp_seq_k fun K1 hK1 => ?_
 refine wp_region_lit ?_
 refine Vp hF (.slice none 0 0) ?_; clear hF; intro a hF
 refine L_nil ?_
 refine hK1 _ _ ?_
 refine wp_seq_k fun K2 hK2 => ?_
 refine wp_region_lit ?_
 refine Vp hF (.pointer (some ⟨c, 0, none⟩)) ?_; clear hF; intro a hF
 refine Vp hF (.int .i64 ((n : Int))) ?_; clear hF; intro a hF
 replace hO := hO.front (.tail (.head _))
 replace hO := hO.front (.tail (.head _))
 refine Lc hF (cur_next_err W0 _ I ea c p cap l k e n W hO (by omega) (by omega) (by assumption)) ?_
 clear hF; rintro _ W1 a ⟨rfl, hk⟩ hF; replace hO := hk; clear hk
 refine Vp hF (.slice none 0 0) ?_; clear hF; intro a hF
 refine L_nil ?_
 refine hK2 _ _ ?_
 refine wp_seq_k fun K3 hK3 => ?_
 refine wp_region_lit ?_
 refine Vp hF (.pointer (some ⟨c, 0, none⟩)) ?_; clear hF; intro a hF
 refine Vp hF (.pointer (some ⟨c, 0, none⟩)) ?_; clear hF; intro a hF
 refine Vp hF (.pointer (some ⟨c, 1, none⟩)) ?_; clear hF; intro a hF
 refine Vr hF (.int .i64 ((k : Int))) (x_load (p := .pointer (some ⟨c, 1, none⟩)) rfl (by kernel_rfl) (run_load1 (by kernel_rfl) ((hO.cell List.mem_cons_self).trans (by kernel_rfl)))) ?_; clear hF; intro a hF
 refine Vp hF (.slice none 0 0) ?_; clear hF; intro a hF
 refine Vp hF (.int .i64 0) ?_; clear hF; intro a hF
 refine Vr hF (.int .i64 ((k : Int))) (x_int (x := IntKind.i64.wrap ((k : Int) + 0)) ((i64In (by omega) (by omega)).trans (by omega)) (by kernel_rfl)) ?_; clear hF; intro a hF
 refine Vp hF (.pointer (some ⟨c, 0, none⟩)) ?_; clear hF; intro a hF
 refine Vp hF (.pointer (some ⟨c, 1, none⟩)) ?_; clear hF; intro a hF
 obtain ⟨W2, hst, hO1⟩ := run_storeAt (P := Tryz.prog) (k := 1) (T := 3) (off := 1) (v := .int .i64 ((k : Int))) (cs := #[.slice p l.length cap, .int .i64 ((k : Int)), eV ea e]) (cs' := #[.slice p l.length cap, .int .i64 ((k : Int)), eV ea e]) hO (by kernel_rfl) (by kernel_rfl) (by kernel_rfl) (Nat.le_of_ble_eq_true (by kernel_rfl)) (by kernel_rfl) (.head _)
 refine L_skip hF (by kernel_rfl) (by kernel_rfl) (x_store (p := .pointer (some ⟨c, 1, none⟩)) (v := .int .i64 ((k : Int))) rfl (by kernel_rfl) (by kernel_rfl) hst) (by kernel_rfl) ?_
 clear hst hF; intro a hF; replace hO := hO1; clear hO1
 refine L_nil ?_
 refine hK3 _ _ ?_
 refine wp_seq_k fun K4 hK4 => ?_
 refine wp_region_lit ?_
 refine Vp hF (.slice none 0 0) ?_; clear hF; intro a hF
 refine Lc hF (cloneB_nil 0 W2) ?_
 clear hF; rintro _ W3 a ⟨rfl, hk⟩ hF
 replace hO := hO.call0 hk; clear hk
 refine Vp hF (.slice none 0 0) ?_; clear hF; intro a hF
 refine L_nil ?_
 refine hK4 _ _ ?_
 refine wp_ret ?_
 replace hO := hO.front (.tail (.head _))
 replace hO := hO.front (.tail (.head _))
 refine ret1 hF (v := .slice none 0 0) rfl (resT (by kernel_rfl)) (by refine ⟨?_, hO.sub (.cons_cons _ (.cons_cons _ (List.Sublist.refl _)))⟩; first | rfl | (simp [*]; done)) .ret (.inl rfl)

set_option maxRecDepth 20000 in
theorem cur_Bytes_short (W0 : World) (L : List Chunk) (I : List Nat) (ea : Nat → Addr) (c : Nat) (p : Option Addr) (cap : Nat) (l : List UInt8) (k : Nat) (e : Option Nat) (n : Nat) (W : World) (hO : Own W0 noX (.blk c (.cells #[.slice p l.length cap, .int .i64 ((k : Int)), eV ea e] 113 (0, 0)) :: rowL u8L 1 5 p cap l :: L) W) (hk : k ≤ l.length) (hsz : l.length ≤ 1000000) (he : e.isSome = false) (hn : ¬ k + n ≤ l.length) (hE : Errs I ea W0) (h1 : I.contains 1 = true) : Ret Tryz.prog 100 #[.pointer (some ⟨c, 0, none⟩), .int .i64 ((n : Int))] W fun v W' => v = .slice none 0 0 ∧ Own W0 noX (.blk c (.cells #[.slice p l.length cap, .int .i64 ((k : Int)), eV ea (some 1)] 113 (0, 0)) :: rowL u8L 1 5 p cap l :: L) W' := by
 refine enter Tryz.func100 rfl (n := 20) rfl (by kernel_rfl) (E0 := [(1, .int .i64 ((n : Int))), (0, .pointer (some ⟨c, 0, none⟩))]) (by kernel_rfl) ?_
 intro a hF; have hO := hO
 refine wp_seq_k fun K1 hK1 => ?_
 refine wp_region_lit ?_
 refine Vp hF (.slice none 0 0) ?_; clear hF; intro a hF
 refine L_nil ?_
 refine hK1 _ _ ?_
 refine wp_seq_k fun K2 hK2 => ?_
 refine wp_region_lit ?_
 refine Vp hF (.pointer (some ⟨c, 0, none⟩)) ?_; clear hF; intro a hF
 refine Vp hF (.int .i64 ((n : Int))) ?_; clear hF; intro a hF
 replace hO := hO.front (.tail (.head _))
 replace hO := hO.front (.tail (.head _))
 refine Lc hF (cur_next_short W0 _ I ea c p cap l k e n W hO (by omega) (by omega) (by assumption) (by assumption) hE h1) ?_
 clear hF; rintro _ W1 a ⟨rfl, hk⟩ hF; replace hO := hk; clear hk
 refine Vp hF (.slice none 0 0) ?_; clear hF; intro a hF
 refine L_nil ?_
 refine hK2 _ _ ?_
 refine wp_seq_k fun K3 hK3 => ?_
 refine wp_region_lit ?_
 refine Vp hF (.pointer (some ⟨c, 0, none⟩)) ?_; clear hF; intro a hF
 refine Vp hF (.pointer (some ⟨c, 0, none⟩)) ?_; clear hF; intro a hF
 refine Vp hF (.pointer (some ⟨c, 1, none⟩)) ?_; clear hF; intro a hF
 refine Vr hF (.int .i64 ((k : Int))) (x_load (p := .pointer (some ⟨c, 1, none⟩)) rfl (by kernel_rfl) (run_load1 (by kernel_rfl) ((hO.cell List.mem_cons_self).trans (by kernel_rfl)))) ?_; clear hF; intro a hF
 refine Vp hF (.slice none 0 0) ?_; clear hF; intro a hF
 refine Vp hF (.int .i64 0) ?_; clear hF; intro a hF
 refine Vr hF (.int .i64 ((k : Int))) (x_int (x := IntKind.i64.wrap ((k : Int) + 0)) ((i64In (by omega) (by omega)).trans (by omega)) (by kernel_rfl)) ?_; clear hF; intro a hF
 refine Vp hF (.pointer (some ⟨c, 0, none⟩)) ?_; clear hF; intro a hF
 refine Vp hF (.pointer (some ⟨c, 1, none⟩)) ?_; clear hF; intro a hF
 obtain ⟨W2, hst, hO1⟩ := run_storeAt (P := Tryz.prog) (k := 1) (T := 3) (off := 1) (v := .int .i64 ((k : Int))) (cs := #[.slice p l.length cap, .int .i64 ((k : Int)), eV ea (some 1)]) (cs' := #[.slice p l.length cap, .int .i64 ((k : Int)), eV ea (some 1)]) hO (by kernel_rfl) (by kernel_rfl) (by kernel_rfl) (Nat.le_of_ble_eq_true (by kernel_rfl)) (by kernel_rfl) (.head _)
 refine L_skip hF (by kernel_rfl) (by kernel_rfl) (x_store (p := .pointer (some ⟨c, 1, none⟩)) (v := .int .i64 ((k : Int))) rfl (by kernel_rfl) (by kernel_rfl) hst) (by kernel_rfl) ?_
 clear hst hF; intro a hF; replace hO := hO1; clear hO1
 refine L_nil ?_
 refine hK3 _ _ ?_
 refine wp_seq_k fun K4 hK4 => ?_
 refine wp_region_lit ?_
 refine Vp hF (.slice none 0 0) ?_; clear hF; intro a hF
 refine Lc hF (cloneB_nil 0 W2) ?_
 clear hF; rintro _ W3 a ⟨rfl, hk⟩ hF
 replace hO := hO.call0 hk; clear hk
 refine Vp hF (.slice none 0 0) ?_; clear hF; intro a hF
 refine L_nil ?_
 refine hK4 _ _ ?_
 refine wp_ret ?_
 replace hO := hO.front (.tail (.head _))
 replace hO := hO.front (.tail (.head _))
 refine ret1 hF (v := .slice none 0 0) rfl (resT (by kernel_rfl)) (by refine ⟨?_, hO.sub (.cons_cons _ (.cons_cons _ (List.Sublist.refl _)))⟩; first | rfl | (simp [*]; done)) .ret (.inl rfl)

set_option maxRecDepth 20000 in
theorem cur_Bytes_ok (W0 : World) (L : List Chunk) (I : List Nat) (ea : Nat → Addr) (c : Nat) (p : Option Addr) (cap : Nat) (l : List UInt8) (k : Nat) (e : Option Nat) (n : Nat) (W : World) (hO : Own W0 noX (.blk c (.cells #[.slice p l.length cap, .int .i64 ((k : Int)), eV ea e] 113 (0, 0)) :: rowL u8L 1 5 p cap l :: L) W) (hk : k ≤ l.length) (hsz : l.length ≤ 1000000) (he : e.isSome = false) (hn : k + n ≤ l.length) : Ret Tryz.prog 100 #[.pointer (some ⟨c, 0, none⟩), .int .i64 ((n : Int))] W fun v W' => ∃ q qc, v = .slice q n qc ∧ Own W0 noX (rowL u8L 1 5 q qc (seg l k n) :: .blk c (.cells #[.slice p l.length cap, .int .i64 (((k + n : Nat) : Int)), eV ea none] 113 (0, 0)) :: rowL u8L 1 5 p cap l :: L) W' := by
 refine enter Tryz.func100 rfl (n := 20) rfl (by kernel_rfl) (E0 := [(1, .int .i64 ((n : Int))), (0, .pointer (some ⟨c, 0, none⟩))]) (by kernel_rfl) ?_
 intro a hF; have hO := hO
 refine wp_seq_k fun K1 hK1 => ?_
 refine wp_region_lit ?_
 refine Vp hF (.slice none 0 0) ?_; clear hF; intro a hF
 refine L_nil ?_
 refine hK1 _ _ ?_
 refine wp_seq_k fun K2 hK2 => ?_
 refine wp_region_lit ?_
 refine Vp hF (.pointer (some ⟨c, 0, none⟩)) ?_; clear hF; intro a hF
 refine Vp hF (.int .i64 ((n : Int))) ?_; clear hF; intro a hF
 replace hO := hO.front (.tail (.head _))
 replace hO := hO.front (.tail (.head _))
 refine Lc hF (cur_next_ok W0 _ I ea c p cap l k e n W hO (by omega) (by omega) (by assumption) (by assumption)) ?_
 clear hF; rintro _ W1 a ⟨rfl, hk⟩ hF; replace hO := hk; clear hk
 refine Vp hF (.slice (subP p (k + n) k 1) n n) ?_; clear hF; intro a hF
 refine L_nil ?_
 refine hK2 _ _ ?_
 refine wp_seq_k fun K3 hK3 => ?_
 refine wp_region_lit ?_
 refine Vp hF (.pointer (some ⟨c, 0, none⟩)) ?_; clear hF; intro a hF
 refine Vp hF (.pointer (some ⟨c, 0, none⟩)) ?_; clear hF; intro a hF
 refine Vp hF (.pointer (some ⟨c, 1, none⟩)) ?_; clear hF; intro a hF
 refine Vr hF (.int .i64 ((k : Int))) (x_load (p := .pointer (some ⟨c, 1, none⟩)) rfl (by kernel_rfl) (run_load1 (by kernel_rfl) ((hO.cell List.mem_cons_self).trans (by kernel_rfl)))) ?_; clear hF; intro a hF
 refine Vp hF (.slice (subP p (k + n) k 1) n n) ?_; clear hF; intro a hF
 refine Vp hF (.int .i64 ((n : Int))) ?_; clear hF; intro a hF
 refine Vr hF (.int .i64 (((k + n : Nat) : Int))) (x_int (x := IntKind.i64.wrap ((k : Int) + (n : Int))) ((i64In (by omega) (by omega)).trans (by omega)) (by kernel_rfl)) ?_; clear hF; intro a hF
 refine Vp hF (.pointer (some ⟨c, 0, none⟩)) ?_; clear hF; intro a hF
 refine Vp hF (.pointer (some ⟨c, 1, none⟩)) ?_; clear hF; intro a hF
 obtain ⟨W2, hst, hO1⟩ := run_storeAt (P := Tryz.prog) (k := 1) (T := 3) (off := 1) (v := .int .i64 (((k + n : Nat) : Int))) (cs := #[.slice p l.length cap, .int .i64 ((k : Int)), eV ea e]) (cs' := #[.slice p l.length cap, .int .i64 (((k + n : Nat) : Int)), eV ea e]) hO (by kernel_rfl) (by kernel_rfl) (by kernel_rfl) (Nat.le_of_ble_eq_true (by kernel_rfl)) (by kernel_rfl) (.head _)
 refine L_skip hF (by kernel_rfl) (by kernel_rfl) (x_store (p := .pointer (some ⟨c, 1, none⟩)) (v := .int .i64 (((k + n : Nat) : Int))) rfl (by kernel_rfl) (by kernel_rfl) hst) (by kernel_rfl) ?_
 clear hst hF; intro a hF; replace hO := hO1; clear hO1
 refine L_nil ?_
 refine hK3 _ _ ?_
 refine wp_seq_k fun K4 hK4 => ?_
 refine wp_region_lit ?_
 refine Vp hF (.slice (subP p (k + n) k 1) n n) ?_; clear hF; intro a hF
 refine Lc hF (cloneB_n (subP p (k + n) k 1) n (seg l k n) n (by have := seg_len hn; omega) W2 (SlAt.dropL (k := 1) (SlAt.takeL (k := 1) (hO.row (List.mem_cons_of_mem _ List.mem_cons_self)) (fun _ => rfl) (k + n)) (fun _ => rfl) (k + n) k (by simp only [List.length_take]; omega)) (by have := seg_len hn; omega)) ?_
 clear hF; rintro _ W3 a ⟨q1, qc1, rfl, hk⟩ hF
 replace hO := hO.call1 hk; clear hk
 refine Vp hF (.slice q1 n qc1) ?_; clear hF; intro a hF
 refine L_nil ?_
 refine hK4 _ _ ?_
 refine wp_ret ?_
 replace hO := hO.front (.tail (.tail (.head _)))
 replace hO := hO.front (.tail (.tail (.head _)))
 replace hO := hO.front (.tail (.tail (.head _)))
 refine ret1 hF (v := .slice q1 n qc1) rfl (resT (by kernel_rfl)) (by have he' : e = none := (by cases e with | none => rfl | some i => cases he); subst he'; exact ⟨_, _, rfl, hO.sub (.cons_cons _ (.cons_cons _ (.cons_cons _ (List.Sublist.refl _))))⟩) .ret (.inl rfl)

set_option maxRecDepth 20000 in
theorem cur_Place (W0 : World) (L : List Chunk) (I : List Nat) (ea : Nat → Addr) (c : Nat) (p : Option Addr) (cap : Nat) (l : List UInt8) (k : Nat) (e : Option Nat) (W : World) (hO : Own W0 noX (.blk c (.cells #[.slice p l.length cap, .int .i64 ((k : Int)), eV ea e] 113 (0, 0)) :: rowL u8L 1 5 p cap l :: L) W) (hk : k ≤ l.length) (hsz : l.length ≤ 1000000) : Ret Tryz.prog 37 #[.pointer (some ⟨c, 0, none⟩)] W fun v W' => v = .int .i64 (k : Int) ∧ Own W0 noX (.blk c (.cells #[.slice p l.length cap, .int .i64 ((k : Int)), eV ea e] 113 (0, 0)) :: rowL u8L 1 5 p cap l :: L) W' := by
 refine enter Tryz.func37 rfl (n := 7) rfl (by kernel_rfl) (E0 := [(0, .pointer (some ⟨c, 0, none⟩))]) (by kernel_rfl) ?_
 intro a hF; have hO := hO
 refine wp_seq_k fun K1 hK1 => ?_
 refine wp_region_lit ?_
 refine Vp hF (.int .i64 0) ?_; clear hF; intro a hF
 refine L_nil ?_
 refine hK1 _ _ ?_
 refine wp_seq_k fun K2 hK2 => ?_
 refine wp_region_lit ?_
 refine Vp hF (.pointer (some ⟨c, 0, none⟩)) ?_; clear hF; intro a hF
 refine Vp hF (.pointer (some ⟨c, 0, none⟩)) ?_; clear hF; intro a hF
 refine Vp hF (.pointer (some ⟨c, 1, none⟩)) ?_; clear hF; intro a hF
 refine Vr hF (.int .i64 ((k : Int))) (x_load (p := .pointer (some ⟨c, 1, none⟩)) rfl (by kernel_rfl) (run_load1 (by kernel_rfl) ((hO.cell List.mem_cons_self).trans (by kernel_rfl)))) ?_; clear hF; intro a hF
 refine Vp hF (.int .i64 ((k : Int))) ?_; clear hF; intro a hF
 refine L_nil ?_
 refine hK2 _ _ ?_
 refine wp_ret ?_
 replace hO := hO.front (.tail (.head _))
 replace hO := hO.front (.tail (.head _))
 refine ret1 hF (v := .int .i64 ((k : Int))) rfl (resT (by kernel_rfl)) (by refine ⟨?_, hO.sub (.cons_cons _ (.cons_cons _ (List.Sublist.refl _)))⟩; first | rfl | (simp [*]; done)) .ret (.inl rfl)

set_option maxRecDepth 20000 in
theorem cur_Err (W0 : World) (L : List Chunk) (I : List Nat) (ea : Nat → Addr) (c : Nat) (p : Option Addr) (cap : Nat) (l : List UInt8) (k : Nat) (e : Option Nat) (W : World) (hO : Own W0 noX (.blk c (.cells #[.slice p l.length cap, .int .i64 ((k : Int)), eV ea e] 113 (0, 0)) :: rowL u8L 1 5 p cap l :: L) W) (hk : k ≤ l.length) (hsz : l.length ≤ 1000000) : Ret Tryz.prog 38 #[.pointer (some ⟨c, 0, none⟩)] W fun v W' => v = eV ea e ∧ Own W0 noX (.blk c (.cells #[.slice p l.length cap, .int .i64 ((k : Int)), eV ea e] 113 (0, 0)) :: rowL u8L 1 5 p cap l :: L) W' := by
 refine enter Tryz.func38 rfl (n := 7) rfl (by kernel_rfl) (E0 := [(0, .pointer (some ⟨c, 0, none⟩))]) (by kernel_rfl) ?_
 intro a hF; have hO := hO
 refine wp_seq_k fun K1 hK1 => ?_
 refine wp_region_lit ?_
 refine Vp hF (.nilIface) ?_; clear hF; intro a hF
 refine L_nil ?_
 refine hK1 _ _ ?_
 refine wp_seq_k fun K2 hK2 => ?_
 refine wp_region_lit ?_
 refine Vp hF (.pointer (some ⟨c, 0, none⟩)) ?_; clear hF; intro a hF
 refine Vp hF (.pointer (some ⟨c, 0, none⟩)) ?_; clear hF; intro a hF
 refine Vp hF (.pointer (some ⟨c, 2, none⟩)) ?_; clear hF; intro a hF
 refine Vr hF (eV ea e) (x_load (p := .pointer (some ⟨c, 2, none⟩)) rfl (by kernel_rfl) (run_load1 (by kernel_rfl) ((hO.cell List.mem_cons_self).trans (by kernel_rfl)))) ?_; clear hF; intro a hF
 refine Vp hF (eV ea e) ?_; clear hF; intro a hF
 refine L_nil ?_
 refine hK2 _ _ ?_
 refine wp_ret ?_
 replace hO := hO.front (.tail (.head _))
 replace hO := hO.front (.tail (.head _))
 refine ret1 hF (v := eV ea e) rfl (resT (by kernel_rfl)) (by refine ⟨?_, hO.sub (.cons_cons _ (.cons_cons _ (List.Sublist.refl _)))⟩; first | rfl | (simp [*]; done)) .ret (.inl rfl)

set_option maxRecDepth 20000 in
theorem oct_At (p : Option Addr) (cap : Nat) (l : List UInt8) (W : World) (hl : SlAt W p (l.flatMap u8L)) (hn : l.length ≤ 1000000) : Ret Tryz.prog 34 #[.slice p l.length cap] W fun v W' => ∃ c q qc, v = .pointer (some ⟨c, 0, none⟩) ∧ Own W noX [.blk c (.cells #[.slice q l.length qc, .int .i64 0, .nilIface] 113 (0, 0)), rowL u8L 1 5 q qc l] W' := by
 refine enter Tryz.func34 rfl (n := 7) rfl (by kernel_rfl) (E0 := [(0, .slice p l.length cap)]) (by kernel_rfl) ?_
 intro a hF; have hO := Own.start W noX
 refine wp_seq_k fun K1 hK1 => ?_
 refine wp_region_lit ?_
 refine Vp hF (.pointer none) ?_; clear hF; intro a hF
 refine L_nil ?_
 refine hK1 _ _ ?_
 refine wp_seq_k fun K2 hK2 => ?_
 refine wp_region_lit ?_
 refine Vp hF (.slice p l.length cap) ?_; clear hF; intro a hF
 refine Lc hF (cloneB_n (p) cap l l.length (by first | rfl | omega) W (hl.own hO) (by omega)) ?_
 clear hF; rintro _ W1 a ⟨q1, qc1, rfl, hk⟩ hF
 replace hO := hO.call1 hk; clear hk
 refine Vp hF (.agg #[.slice q1 l.length qc1, .int .i64 0, .nilIface]) ?_; clear hF; intro a hF
 refine L_new hF hO (by kernel_rfl) (by kernel_rfl) (vf := fun b => .pointer (some ⟨b, 0, none⟩)) (ob := .cells #[.slice q1 l.length qc1, .int .i64 0, .nilIface] 113) (by kernel_rfl) (by kernel_rfl) ?_
 clear hF hO; intro b1 W2 a hO hF
 refine Vp hF (.pointer (some ⟨b1, 0, none⟩)) ?_; clear hF; intro a hF
 refine L_nil ?_
 refine hK2 _ _ ?_
 refine wp_ret ?_
 refine ret1 hF (v := .pointer (some ⟨b1, 0, none⟩)) rfl (resT (by kernel_rfl)) (by exact ⟨_, _, _, rfl, hO.sub (.cons_cons _ (.cons_cons _ (List.nil_sublist _)))⟩) .ret (.inl rfl)

theorem num_eV (ea : Nat → Addr) (e : Option Nat) (W : World) (hE : Errs errIs ea W) (he : ∀ i, e = some i → i < 18) : Ret Tryz.prog 21 #[eV ea e] W fun v W' => v = .int .i64 (nE e) ∧ Own W noX [] W' := by
  cases e with
  | none => exact num_nil W
  | some i => exact num_err ea i W hE (he i rfl)
end Go.Proofs.YthellfigmpjhlaaGreatDoor
