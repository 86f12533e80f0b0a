import Derived.Test.YthellfigmpjhlaaGreatDoorOctW
namespace Go.Proofs.YthellfigmpjhlaaGreatDoor
open Go Go.RowKit
set_option linter.unusedVariables false
set_option linter.unusedSimpArgs false
set_option maxRecDepth 20000 in
theorem rcur_take_err (W0 : World) (L : List Chunk) (c : Nat) (p : Option Addr) (cap : Nat) (l : List UInt8) (k : Nat) (e : Option Nat) (n : Nat) (W : World) (hO : Own W0 noX (.blk c (.cells #[.slice p l.length cap, .int .i64 ((k : Int)), .int .i64 ((nE e))] 52 (0, 0)) :: L) W) (hl : SlAt W0 p (l.flatMap u8L)) (hcap : l.length ≤ cap) (hk : k ≤ l.length) (hsz : l.length ≤ 1000000) (he : e.isSome = true) : Ret Tryz.prog 144 #[.pointer (some ⟨c, 0, none⟩), .int .i64 ((n : Int))] W fun v W' => v = .tuple #[.slice none 0 0, .bool false] ∧ Own W0 noX (.blk c (.cells #[.slice p l.length cap, .int .i64 ((k : Int)), .int .i64 ((nE e))] 52 (0, 0)) :: L) W' := by
 refine enter Tryz.func144 rfl (n := 56) rfl (by kernel_rfl) (E0 := [(1, .int .i64 ((n : Int))), (0, .pointer (some ⟨c, 0, none⟩))]) (by kernel_rfl) ?_
 intro a hF; have hO := hO
 refine wp_seq_k fun K1 hK1 => ?_
 refine wp_region_lit ?_
 refine Vp hF (.slice none 0 0) ?_; clear hF; intro a hF
 refine Vp hF (.bool false) ?_; clear hF; intro a hF
 refine L_nil ?_
 refine hK1 _ _ ?_
 refine wp_seq_k fun K2 hK2 => ?_
 refine wp_seq_k fun K3 hK3 => ?_
 refine wp_region_lit ?_
 refine Vp hF (.pointer (some ⟨c, 0, none⟩)) ?_; clear hF; intro a hF
 refine Vp hF (.pointer (some ⟨c, 0, none⟩)) ?_; clear hF; intro a hF
 refine Vp hF (.pointer (some ⟨c, 2, none⟩)) ?_; clear hF; intro a hF
 refine Vr hF (.int .i64 ((nE e))) (x_load (p := .pointer (some ⟨c, 2, none⟩)) rfl (by kernel_rfl) (run_load1 (by kernel_rfl) ((hO.cell List.mem_cons_self).trans (by kernel_rfl)))) ?_; clear hF; intro a hF
 refine Vr hF (.bool e.isSome) (x_bool (x := !(nE e == 0)) (nE_ne e) (by kernel_rfl)) ?_; clear hF; intro a hF
 refine L_nil ?_
 refine hK3 _ _ ?_
 replace hF := hF.know (d := 11) (v' := .bool true) (by kernel_rfl) (congrArg Value.bool he)
 refine cond_t hF (by kernel_rfl) (by kernel_rfl) ?_
 refine wp_seq_k fun K4 hK4 => ?_
 refine wp_region_lit ?_
 refine Vp hF (.slice none 0 0) ?_; clear hF; intro a hF
 refine Vp hF (.bool false) ?_; clear hF; intro a hF
 refine L_nil ?_
 refine hK4 _ _ ?_
 refine wp_ret ?_
 refine then_ret ?_
 refine ret2 hF (v := .slice none 0 0) (u := .bool false) rfl (resT (by kernel_rfl)) (resT (by kernel_rfl)) (by refine ⟨?_, hO.sub (.cons_cons _ (List.Sublist.refl _))⟩; first | rfl | (simp [*]; done)) .ret (.inl rfl)

set_option maxRecDepth 20000 in
theorem rcur_take_short (W0 : World) (L : List Chunk) (c : Nat) (p : Option Addr) (cap : Nat) (l : List UInt8) (k : Nat) (e : Option Nat) (n : Nat) (W : World) (hO : Own W0 noX (.blk c (.cells #[.slice p l.length cap, .int .i64 ((k : Int)), .int .i64 ((nE e))] 52 (0, 0)) :: L) W) (hl : SlAt W0 p (l.flatMap u8L)) (hcap : l.length ≤ cap) (hk : k ≤ l.length) (hsz : l.length ≤ 1000000) (he : e.isSome = false) (hn : ¬ k + n ≤ l.length) : Ret Tryz.prog 144 #[.pointer (some ⟨c, 0, none⟩), .int .i64 ((n : Int))] W fun v W' => v = .tuple #[.slice none 0 0, .bool false] ∧ Own W0 noX (.blk c (.cells #[.slice p l.length cap, .int .i64 ((k : Int)), .int .i64 ((nE (some 1)))] 52 (0, 0)) :: L) W' := by
 refine enter Tryz.func144 rfl (n := 56) rfl (by kernel_rfl) (E0 := [(1, .int .i64 ((n : Int))), (0, .pointer (some ⟨c, 0, none⟩))]) (by kernel_rfl) ?_
 intro a hF; have hO := hO
 refine wp_seq_k fun K1 hK1 => ?_
 refine wp_region_lit ?_
 refine Vp hF (.slice none 0 0) ?_; clear hF; intro a hF
 refine Vp hF (.bool false) ?_; clear hF; intro a hF
 refine L_nil ?_
 refine hK1 _ _ ?_
 refine wp_seq_k fun K2 hK2 => ?_
 refine wp_seq_k fun K3 hK3 => ?_
 refine wp_region_lit ?_
 refine Vp hF (.pointer (some ⟨c, 0, none⟩)) ?_; clear hF; intro a hF
 refine Vp hF (.pointer (some ⟨c, 0, none⟩)) ?_; clear hF; intro a hF
 refine Vp hF (.pointer (some ⟨c, 2, none⟩)) ?_; clear hF; intro a hF
 refine Vr hF (.int .i64 ((nE e))) (x_load (p := .pointer (some ⟨c, 2, none⟩)) rfl (by kernel_rfl) (run_load1 (by kernel_rfl) ((hO.cell List.mem_cons_self).trans (by kernel_rfl)))) ?_; clear hF; intro a hF
 refine Vr hF (.bool e.isSome) (x_bool (x := !(nE e == 0)) (nE_ne e) (by kernel_rfl)) ?_; clear hF; intro a hF
 refine L_nil ?_
 refine hK3 _ _ ?_
 replace hF := hF.know (d := 11) (v' := .bool false) (by kernel_rfl) (congrArg Value.bool he)
 refine cond_f hF (by kernel_rfl) (by kernel_rfl) ?_
 refine wp_skip ?_
 refine hK2 _ _ ?_
 refine wp_seq_k fun K4 hK4 => ?_
 refine wp_seq_k fun K5 hK5 => ?_
 refine wp_region_lit ?_
 refine Vp hF (.int .i64 ((n : Int))) ?_; clear hF; intro a hF
 refine Vr hF (.bool false) (x_bool (x := decide ((n : Int) < 0)) (decide_eq_false (by omega)) (by kernel_rfl)) ?_; clear hF; intro a hF
 refine L_nil ?_
 refine hK5 _ _ ?_
 refine cond_f hF (by kernel_rfl) (by kernel_rfl) ?_
 refine wp_skip ?_
 refine hK4 _ _ ?_
 refine wp_seq_k fun K6 hK6 => ?_
 refine wp_seq_k fun K7 hK7 => ?_
 refine A_start (fun Wx => Own W0 noX (.blk c (.cells #[.slice p l.length cap, .int .i64 ((k : Int)), .int .i64 ((nE e))] 52 (0, 0)) :: L) Wx) (by kernel_rfl) ?_
 replace hO := hO.drewN 1
 generalize hWd : ({ W with drawn := W.drawn + 1 } : World) = W_d at hO ⊢; clear hWd
 have hS := hO.sub (.cons_cons _ (List.Sublist.refl _))
 refine Tk 0 rfl hF (.pointer (some ⟨c, 0, none⟩)) (fun Wx _ => by kernel_rfl) hS ?_; clear hF; intro a hF
 refine Tk 1 rfl hF (.pointer (some ⟨c, 0, none⟩)) (fun Wx _ => by kernel_rfl) hS ?_; clear hF; intro a hF
 refine Tk 2 rfl hF (.pointer (some ⟨c, 0, none⟩)) (fun Wx _ => by kernel_rfl) hS ?_; clear hF; intro a hF
 refine Tk 3 rfl hF (.slice p l.length cap) (fun Wx hO => x_load (p := .pointer (some ⟨c, 0, none⟩)) rfl (by kernel_rfl) (run_load1 (by kernel_rfl) ((hO.cell List.mem_cons_self).trans (by kernel_rfl)))) hS ?_; clear hF; intro a hF
 refine Tk 4 rfl hF (.int .i64 ((l.length : Int))) (fun Wx _ => by kernel_rfl) hS ?_; clear hF; intro a hF
 refine Tk 5 rfl hF (.pointer (some ⟨c, 0, none⟩)) (fun Wx _ => by kernel_rfl) hS ?_; clear hF; intro a hF
 refine Tk 6 rfl hF (.pointer (some ⟨c, 0, none⟩)) (fun Wx _ => by kernel_rfl) hS ?_; clear hF; intro a hF
 refine Tk 7 rfl hF (.pointer (some ⟨c, 1, none⟩)) (fun Wx _ => by kernel_rfl) hS ?_; clear hF; intro a hF
 refine Tk 8 rfl hF (.int .i64 ((k : Int))) (fun Wx hO => x_load (p := .pointer (some ⟨c, 1, none⟩)) rfl (by kernel_rfl) (run_load1 (by kernel_rfl) ((hO.cell List.mem_cons_self).trans (by kernel_rfl)))) hS ?_; clear hF; intro a hF
 refine Tk 9 rfl hF (.int .i64 ((l.length : Int) - (k : Int))) (fun Wx _ => (x_int (x := IntKind.i64.wrap ((l.length : Int) - (k : Int))) (i64In (by omega) (by omega)) (by kernel_rfl))) hS ?_; clear hF; intro a hF
 refine Tk 10 rfl hF (.int .i64 ((n : Int))) (fun Wx _ => by kernel_rfl) hS ?_; clear hF; intro a hF
 refine Tk 11 rfl hF (.bool true) (fun Wx _ => (x_bool (x := decide ((l.length : Int) - (k : Int) < (n : Int))) (decide_eq_true (by omega)) (by kernel_rfl))) hS ?_; clear hF; intro a hF
 refine A_done (by kernel_rfl) ?_
 refine hK7 _ _ ?_
 refine cond_t hF (by kernel_rfl) (by kernel_rfl) ?_
 refine wp_seq_k fun K8 hK8 => ?_
 refine wp_region_lit ?_
 refine Vp hF (.pointer (some ⟨c, 0, none⟩)) ?_; clear hF; intro a hF
 refine Vp hF (.pointer (some ⟨c, 0, none⟩)) ?_; clear hF; intro a hF
 refine Vp hF (.pointer (some ⟨c, 2, none⟩)) ?_; clear hF; intro a hF
 obtain ⟨W1, hst, hO1⟩ := run_storeAt (P := Tryz.prog) (k := 1) (T := 3) (off := 2) (v := .int .i64 2) (cs := #[.slice p l.length cap, .int .i64 ((k : Int)), .int .i64 ((nE e))]) (cs' := #[.slice p l.length cap, .int .i64 ((k : Int)), .int .i64 2]) hO (by kernel_rfl) (by kernel_rfl) (by kernel_rfl) (Nat.le_of_ble_eq_true (by kernel_rfl)) (by kernel_rfl) (.head _)
 refine L_skip hF (by kernel_rfl) (by kernel_rfl) (x_store (p := .pointer (some ⟨c, 2, none⟩)) (v := .int .i64 2) rfl (by kernel_rfl) (by kernel_rfl) hst) (by kernel_rfl) ?_
 clear hst hF; intro a hF; replace hO := hO1; clear hO1
 refine L_nil ?_
 refine hK8 _ _ ?_
 refine wp_seq_k fun K9 hK9 => ?_
 refine wp_region_lit ?_
 refine Vp hF (.slice none 0 0) ?_; clear hF; intro a hF
 refine Vp hF (.bool false) ?_; clear hF; intro a hF
 refine L_nil ?_
 refine hK9 _ _ ?_
 refine wp_ret ?_
 refine then_ret ?_
 refine ret2 hF (v := .slice none 0 0) (u := .bool false) rfl (resT (by kernel_rfl)) (resT (by kernel_rfl)) (by refine ⟨?_, hO.sub (.cons_cons _ (List.Sublist.refl _))⟩; first | rfl | (simp [*]; done)) .ret (.inl rfl)

set_option maxRecDepth 20000 in
theorem rcur_take_ok (W0 : World) (L : List Chunk) (c : Nat) (p : Option Addr) (cap : Nat) (l : List UInt8) (k : Nat) (e : Option Nat) (n : Nat) (W : World) (hO : Own W0 noX (.blk c (.cells #[.slice p l.length cap, .int .i64 ((k : Int)), .int .i64 ((nE e))] 52 (0, 0)) :: L) W) (hl : SlAt W0 p (l.flatMap u8L)) (hcap : l.length ≤ cap) (hk : k ≤ l.length) (hsz : l.length ≤ 1000000) (he : e.isSome = false) (hn : k + n ≤ l.length) : Ret Tryz.prog 144 #[.pointer (some ⟨c, 0, none⟩), .int .i64 ((n : Int))] W fun v W' => v = .tuple #[.slice (subP p cap k 1) n (cap - k), .bool true] ∧ Own W0 noX (.blk c (.cells #[.slice p l.length cap, .int .i64 (((k + n : Nat) : Int)), .int .i64 ((nE none))] 52 (0, 0)) :: L) W' := by
 refine enter Tryz.func144 rfl (n := 56) rfl (by kernel_rfl) (E0 := [(1, .int .i64 ((n : Int))), (0, .pointer (some ⟨c, 0, none⟩))]) (by kernel_rfl) ?_
 intro a hF; have hO := hO
 refine wp_seq_k fun K1 hK1 => ?_
 refine wp_region_lit ?_
 refine Vp hF (.slice none 0 0) ?_; clear hF; intro a hF
 refine Vp hF (.bool false) ?_; clear hF; intro a hF
 refine L_nil ?_
 refine hK1 _ _ ?_
 refine wp_seq_k fun K2 hK2 => ?_
 refine wp_seq_k fun K3 hK3 => ?_
 refine wp_region_lit ?_
 refine Vp hF (.pointer (some ⟨c, 0, none⟩)) ?_; clear hF; intro a hF
 refine Vp hF (.pointer (some ⟨c, 0, none⟩)) ?_; clear hF; intro a hF
 refine Vp hF (.pointer (some ⟨c, 2, none⟩)) ?_; clear hF; intro a hF
 refine Vr hF (.int .i64 ((nE e))) (x_load (p := .pointer (some ⟨c, 2, none⟩)) rfl (by kernel_rfl) (run_load1 (by kernel_rfl) ((hO.cell List.mem_cons_self).trans (by kernel_rfl)))) ?_; clear hF; intro a hF
 refine Vr hF (.bool e.isSome) (x_bool (x := !(nE e == 0)) (nE_ne e) (by kernel_rfl)) ?_; clear hF; intro a hF
 refine L_nil ?_
 refine hK3 _ _ ?_
 replace hF := hF.know (d := 11) (v' := .bool false) (by kernel_rfl) (congrArg Value.bool he)
 refine cond_f hF (by kernel_rfl) (by kernel_rfl) ?_
 refine wp_skip ?_
 refine hK2 _ _ ?_
 refine wp_seq_k fun K4 hK4 => ?_
 refine wp_seq_k fun K5 hK5 => ?_
 refine wp_region_lit ?_
 refine Vp hF (.int .i64 ((n : Int))) ?_; clear hF; intro a hF
 refine Vr hF (.bool false) (x_bool (x := decide ((n : Int) < 0)) (decide_eq_false (by omega)) (by kernel_rfl)) ?_; clear hF; intro a hF
 refine L_nil ?_
 refine hK5 _ _ ?_
 refine cond_f hF (by kernel_rfl) (by kernel_rfl) ?_
 refine wp_skip ?_
 refine hK4 _ _ ?_
 refine wp_seq_k fun K6 hK6 => ?_
 refine wp_seq_k fun K7 hK7 => ?_
 refine A_start (fun Wx => Own W0 noX (.blk c (.cells #[.slice p l.length cap, .int .i64 ((k : Int)), .int .i64 ((nE e))] 52 (0, 0)) :: L) Wx) (by kernel_rfl) ?_
 replace hO := hO.drewN 1
 generalize hWd : ({ W with drawn := W.drawn + 1 } : World) = W_d at hO ⊢; clear hWd
 have hS := hO.sub (.cons_cons _ (List.Sublist.refl _))
 refine Tk 0 rfl hF (.pointer (some ⟨c, 0, none⟩)) (fun Wx _ => by kernel_rfl) hS ?_; clear hF; intro a hF
 refine Tk 1 rfl hF (.pointer (some ⟨c, 0, none⟩)) (fun Wx _ => by kernel_rfl) hS ?_; clear hF; intro a hF
 refine Tk 2 rfl hF (.pointer (some ⟨c, 0, none⟩)) (fun Wx _ => by kernel_rfl) hS ?_; clear hF; intro a hF
 refine Tk 3 rfl hF (.slice p l.length cap) (fun Wx hO => x_load (p := .pointer (some ⟨c, 0, none⟩)) rfl (by kernel_rfl) (run_load1 (by kernel_rfl) ((hO.cell List.mem_cons_self).trans (by kernel_rfl)))) hS ?_; clear hF; intro a hF
 refine Tk 4 rfl hF (.int .i64 ((l.length : Int))) (fun Wx _ => by kernel_rfl) hS ?_; clear hF; intro a hF
 refine Tk 5 rfl hF (.pointer (some ⟨c, 0, none⟩)) (fun Wx _ => by kernel_rfl) hS ?_; clear hF; intro a hF
 refine Tk 6 rfl hF (.pointer (some ⟨c, 0, none⟩)) (fun Wx _ => by kernel_rfl) hS ?_; clear hF; intro a hF
 refine Tk 7 rfl hF (.pointer (some ⟨c, 1, none⟩)) (fun Wx _ => by kernel_rfl) hS ?_; clear hF; intro a hF
 refine Tk 8 rfl hF (.int .i64 ((k : Int))) (fun Wx hO => x_load (p := .pointer (some ⟨c, 1, none⟩)) rfl (by kernel_rfl) (run_load1 (by kernel_rfl) ((hO.cell List.mem_cons_self).trans (by kernel_rfl)))) hS ?_; clear hF; intro a hF
 refine Tk 9 rfl hF (.int .i64 ((l.length : Int) - (k : Int))) (fun Wx _ => (x_int (x := IntKind.i64.wrap ((l.length : Int) - (k : Int))) (i64In (by omega) (by omega)) (by kernel_rfl))) hS ?_; clear hF; intro a hF
 refine Tk 10 rfl hF (.int .i64 ((n : Int))) (fun Wx _ => by kernel_rfl) hS ?_; clear hF; intro a hF
 refine Tk 11 rfl hF (.bool false) (fun Wx _ => (x_bool (x := decide ((l.length : Int) - (k : Int) < (n : Int))) (decide_eq_false (by omega)) (by kernel_rfl))) hS ?_; clear hF; intro a hF
 refine A_done (by kernel_rfl) ?_
 refine hK7 _ _ ?_
 refine cond_f hF (by kernel_rfl) (by kernel_rfl) ?_
 refine wp_skip ?_
 refine hK6 _ _ ?_
 refine wp_seq_k fun K8 hK8 => ?_
 refine A_start (fun Wx => Own W0 noX (.blk c (.cells #[.slice p l.length cap, .int .i64 ((k : Int)), .int .i64 ((nE e))] 52 (0, 0)) :: L) Wx) (by kernel_rfl) ?_
 replace hO := hO.drewN 1
 generalize hWd : ({ W_d with drawn := W_d.drawn + 1 } : World) = W_d_d at hO ⊢; clear hWd
 have hS := hO.sub (.cons_cons _ (List.Sublist.refl _))
 refine Tk 0 rfl hF (.pointer (some ⟨c, 0, none⟩)) (fun Wx _ => by kernel_rfl) hS ?_; clear hF; intro a hF
 refine Tk 1 rfl hF (.pointer (some ⟨c, 0, none⟩)) (fun Wx _ => by kernel_rfl) hS ?_; clear hF; intro a hF
 refine Tk 2 rfl hF (.pointer (some ⟨c, 0, none⟩)) (fun Wx _ => by kernel_rfl) hS ?_; clear hF; intro a hF
 refine Tk 3 rfl hF (.slice p l.length cap) (fun Wx hO => x_load (p := .pointer (some ⟨c, 0, none⟩)) rfl (by kernel_rfl) (run_load1 (by kernel_rfl) ((hO.cell List.mem_cons_self).trans (by kernel_rfl)))) hS ?_; clear hF; intro a hF
 refine Tk 4 rfl hF (.pointer (some ⟨c, 0, none⟩)) (fun Wx _ => by kernel_rfl) hS ?_; clear hF; intro a hF
 refine Tk 5 rfl hF (.pointer (some ⟨c, 0, none⟩)) (fun Wx _ => by kernel_rfl) hS ?_; clear hF; intro a hF
 refine Tk 6 rfl hF (.pointer (some ⟨c, 1, none⟩)) (fun Wx _ => by kernel_rfl) hS ?_; clear hF; intro a hF
 refine Tk 7 rfl hF (.int .i64 ((k : Int))) (fun Wx hO => x_load (p := .pointer (some ⟨c, 1, none⟩)) rfl (by kernel_rfl) (run_load1 (by kernel_rfl) ((hO.cell List.mem_cons_self).trans (by kernel_rfl)))) hS ?_; clear hF; intro a hF
 refine Tk 8 rfl hF (.pointer (some ⟨c, 0, none⟩)) (fun Wx _ => by kernel_rfl) hS ?_; clear hF; intro a hF
 refine Tk 9 rfl hF (.pointer (some ⟨c, 0, none⟩)) (fun Wx _ => by kernel_rfl) hS ?_; clear hF; intro a hF
 refine Tk 10 rfl hF (.pointer (some ⟨c, 1, none⟩)) (fun Wx _ => by kernel_rfl) hS ?_; clear hF; intro a hF
 refine Tk 11 rfl hF (.int .i64 ((k : Int))) (fun Wx hO => x_load (p := .pointer (some ⟨c, 1, none⟩)) rfl (by kernel_rfl) (run_load1 (by kernel_rfl) ((hO.cell List.mem_cons_self).trans (by kernel_rfl)))) hS ?_; clear hF; intro a hF
 refine Tk 12 rfl hF (.int .i64 ((n : Int))) (fun Wx _ => by kernel_rfl) hS ?_; clear hF; intro a hF
 refine Tk 13 rfl hF (.int .i64 (((k + n : Nat) : Int))) (fun Wx _ => (x_int (x := IntKind.i64.wrap ((k : Int) + (n : Int))) ((i64In (by omega) (by omega)).trans (by omega)) (by kernel_rfl))) hS ?_; clear hF; intro a hF
 refine Tk 14 rfl hF (.slice (subP p cap k 1) (((l.take (k + n)).drop k).length) (cap - k)) (fun Wx _ => (x_slSlL (p := p) (len := l.length) (cap := cap) (elem := 5) (k := 1) (lo := (k : Int)) (hi := ((k + n : Nat) : Int)) rfl (by kernel_rfl) (by kernel_rfl) (by kernel_rfl) ⟨.i64, (by kernel_rfl)⟩ ⟨.i64, (by kernel_rfl)⟩ (by omega) (by omega) (by have := hcap; omega) (by simp only [List.length_drop, List.length_take]; omega) rfl)) hS ?_; clear hF; intro a hF
 refine Tk 15 rfl hF (.slice (subP p cap k 1) (((l.take (k + n)).drop k).length) (cap - k)) (fun Wx _ => by kernel_rfl) hS ?_; clear hF; intro a hF
 refine A_done (by kernel_rfl) ?_
 refine hK8 _ _ ?_
 refine wp_seq_k fun K9 hK9 => ?_
 refine wp_region_lit ?_
 refine Vp hF (.pointer (some ⟨c, 0, none⟩)) ?_; clear hF; intro a hF
 refine Vp hF (.pointer (some ⟨c, 0, none⟩)) ?_; clear hF; intro a hF
 refine Vp hF (.pointer (some ⟨c, 1, none⟩)) ?_; clear hF; intro a hF
 refine Vr hF (.int .i64 ((k : Int))) (x_load (p := .pointer (some ⟨c, 1, none⟩)) rfl (by kernel_rfl) (run_load1 (by kernel_rfl) ((hO.cell List.mem_cons_self).trans (by kernel_rfl)))) ?_; clear hF; intro a hF
 refine Vp hF (.int .i64 ((n : Int))) ?_; clear hF; intro a hF
 refine Vr hF (.int .i64 (((k + n : Nat) : Int))) (x_int (x := IntKind.i64.wrap ((k : Int) + (n : Int))) ((i64In (by omega) (by omega)).trans (by omega)) (by kernel_rfl)) ?_; clear hF; intro a hF
 refine Vp hF (.pointer (some ⟨c, 0, none⟩)) ?_; clear hF; intro a hF
 refine Vp hF (.pointer (some ⟨c, 1, none⟩)) ?_; clear hF; intro a hF
 obtain ⟨W1, hst, hO1⟩ := run_storeAt (P := Tryz.prog) (k := 1) (T := 3) (off := 1) (v := .int .i64 (((k + n : Nat) : Int))) (cs := #[.slice p l.length cap, .int .i64 ((k : Int)), .int .i64 ((nE e))]) (cs' := #[.slice p l.length cap, .int .i64 (((k + n : Nat) : Int)), .int .i64 ((nE e))]) hO (by kernel_rfl) (by kernel_rfl) (by kernel_rfl) (Nat.le_of_ble_eq_true (by kernel_rfl)) (by kernel_rfl) (.head _)
 refine L_skip hF (by kernel_rfl) (by kernel_rfl) (x_store (p := .pointer (some ⟨c, 1, none⟩)) (v := .int .i64 (((k + n : Nat) : Int))) rfl (by kernel_rfl) (by kernel_rfl) hst) (by kernel_rfl) ?_
 clear hst hF; intro a hF; replace hO := hO1; clear hO1
 refine L_nil ?_
 refine hK9 _ _ ?_
 refine wp_seq_k fun K10 hK10 => ?_
 refine wp_region_lit ?_
 refine Vp hF (.slice (subP p cap k 1) (((l.take (k + n)).drop k).length) (cap - k)) ?_; clear hF; intro a hF
 refine Vp hF (.slice (subP p cap k 1) (((l.take (k + n)).drop k).length) (cap - k)) ?_; clear hF; intro a hF
 refine Vp hF (.bool true) ?_; clear hF; intro a hF
 refine L_nil ?_
 refine hK10 _ _ ?_
 refine wp_ret ?_
 refine ret2 hF (v := .slice (subP p cap k 1) (((l.take (k + n)).drop k).length) (cap - k)) (u := .bool true) rfl (resT (by kernel_rfl)) (resT (by kernel_rfl)) (by have he' : e = none := (by cases e with | none => rfl | some i => cases he); subst he'; exact ⟨by first | rfl | (rw [seg_len' hn]; done) | (rw [show k + n - k = n by omega]; done), hO.sub (.cons_cons _ (List.Sublist.refl _))⟩) .ret (.inl rfl)

set_option maxRecDepth 20000 in
theorem rcur_Bytes_err (W0 : World) (L : List Chunk) (c : Nat) (p : Option Addr) (cap : Nat) (l : List UInt8) (k : Nat) (e : Option Nat) (n : Nat) (W : World) (hO : Own W0 noX (.blk c (.cells #[.slice p l.length cap, .int .i64 ((k : Int)), .int .i64 ((nE e))] 52 (0, 0)) :: L) W) (hl : SlAt W0 p (l.flatMap u8L)) (hcap : l.length ≤ cap) (hk : k ≤ l.length) (hsz : l.length ≤ 1000000) (he : e.isSome = true) : Ret Tryz.prog 101 #[.pointer (some ⟨c, 0, none⟩), .int .i64 ((n : Int))] W fun v W' => v = .slice none 0 0 ∧ Own W0 noX (.blk c (.cells #[.slice p l.length cap, .int .i64 ((k : Int)), .int .i64 ((nE e))] 52 (0, 0)) :: L) W' := by
 refine enter Tryz.func101 rfl (n := 14) rfl (by kernel_rfl) (E0 := [(1, .int .i64 ((n : Int))), (0, .pointer (some ⟨c, 0, none⟩))]) (by kernel_rfl) ?_
 intro a hF; have hO := hO
 refine wp_seq_k fun K1 hK1 => ?_
 refine wp_region_lit ?_
 refine Vp hF (.slice none 0 0) ?_; clear hF; intro a hF
 refine L_nil ?_
 refine hK1 _ _ ?_
 refine wp_seq_k fun K2 hK2 => ?_
 refine wp_region_lit ?_
 refine Vp hF (.pointer (some ⟨c, 0, none⟩)) ?_; clear hF; intro a hF
 refine Vp hF (.int .i64 ((n : Int))) ?_; clear hF; intro a hF
 refine Lc hF (rcur_take_err W0 _ c p cap l k e n W hO hl (by omega) (by omega) (by omega) (by assumption)) ?_
 clear hF; rintro _ W1 a ⟨rfl, hk⟩ hF; replace hO := hk; clear hk
 refine Vp hF (.tuple #[.slice none 0 0, .bool false]) ?_; clear hF; intro a hF
 refine Vp hF (.slice none 0 0) ?_; clear hF; intro a hF
 refine Vp hF (.bool false) ?_; clear hF; intro a hF
 refine Vp hF (.slice none 0 0) ?_; clear hF; intro a hF
 refine Vp hF (.bool false) ?_; clear hF; intro a hF
 refine L_nil ?_
 refine hK2 _ _ ?_
 refine wp_seq_k fun K3 hK3 => ?_
 refine wp_region_lit ?_
 refine Vp hF (.slice none 0 0) ?_; clear hF; intro a hF
 refine Vp hF (.slice none 0 0) ?_; clear hF; intro a hF
 refine L_nil ?_
 refine hK3 _ _ ?_
 refine wp_ret ?_
 refine ret1 hF (v := .slice none 0 0) rfl (resT (by kernel_rfl)) (by refine ⟨?_, hO.sub (.cons_cons _ (List.Sublist.refl _))⟩; first | rfl | (simp [*]; done)) .ret (.inl rfl)

set_option maxRecDepth 20000 in
theorem rcur_Bytes_short (W0 : World) (L : List Chunk) (c : Nat) (p : Option Addr) (cap : Nat) (l : List UInt8) (k : Nat) (e : Option Nat) (n : Nat) (W : World) (hO : Own W0 noX (.blk c (.cells #[.slice p l.length cap, .int .i64 ((k : Int)), .int .i64 ((nE e))] 52 (0, 0)) :: L) W) (hl : SlAt W0 p (l.flatMap u8L)) (hcap : l.length ≤ cap) (hk : k ≤ l.length) (hsz : l.length ≤ 1000000) (he : e.isSome = false) (hn : ¬ k + n ≤ l.length) : Ret Tryz.prog 101 #[.pointer (some ⟨c, 0, none⟩), .int .i64 ((n : Int))] W fun v W' => v = .slice none 0 0 ∧ Own W0 noX (.blk c (.cells #[.slice p l.length cap, .int .i64 ((k : Int)), .int .i64 ((nE (some 1)))] 52 (0, 0)) :: L) W' := by
 refine enter Tryz.func101 rfl (n := 14) rfl (by kernel_rfl) (E0 := [(1, .int .i64 ((n : Int))), (0, .pointer (some ⟨c, 0, none⟩))]) (by kernel_rfl) ?_
 intro a hF; have hO := hO
 refine wp_seq_k fun K1 hK1 => ?_
 refine wp_region_lit ?_
 refine Vp hF (.slice none 0 0) ?_; clear hF; intro a hF
 refine L_nil ?_
 refine hK1 _ _ ?_
 refine wp_seq_k fun K2 hK2 => ?_
 refine wp_region_lit ?_
 refine Vp hF (.pointer (some ⟨c, 0, none⟩)) ?_; clear hF; intro a hF
 refine Vp hF (.int .i64 ((n : Int))) ?_; clear hF; intro a hF
 refine Lc hF (rcur_take_short W0 _ c p cap l k e n W hO hl (by omega) (by omega) (by omega) (by assumption) (by assumption)) ?_
 clear hF; rintro _ W1 a ⟨rfl, hk⟩ hF; replace hO := hk; clear hk
 refine Vp hF (.tuple #[.slice none 0 0, .bool false]) ?_; clear hF; intro a hF
 refine Vp hF (.slice none 0 0) ?_; clear hF; intro a hF
 refine Vp hF (.bool false) ?_; clear hF; intro a hF
 refine Vp hF (.slice none 0 0) ?_; clear hF; intro a hF
 refine Vp hF (.bool false) ?_; clear hF; intro a hF
 refine L_nil ?_
 refine hK2 _ _ ?_
 refine wp_seq_k fun K3 hK3 => ?_
 refine wp_region_lit ?_
 refine Vp hF (.slice none 0 0) ?_; clear hF; intro a hF
 refine Vp hF (.slice none 0 0) ?_; clear hF; intro a hF
 refine L_nil ?_
 refine hK3 _ _ ?_
 refine wp_ret ?_
 refine ret1 hF (v := .slice none 0 0) rfl (resT (by kernel_rfl)) (by refine ⟨?_, hO.sub (.cons_cons _ (List.Sublist.refl _))⟩; first | rfl | (simp [*]; done)) .ret (.inl rfl)

set_option maxRecDepth 20000 in
theorem rcur_Bytes_ok (W0 : World) (L : List Chunk) (c : Nat) (p : Option Addr) (cap : Nat) (l : List UInt8) (k : Nat) (e : Option Nat) (n : Nat) (W : World) (hO : Own W0 noX (.blk c (.cells #[.slice p l.length cap, .int .i64 ((k : Int)), .int .i64 ((nE e))] 52 (0, 0)) :: L) W) (hl : SlAt W0 p (l.flatMap u8L)) (hcap : l.length ≤ cap) (hk : k ≤ l.length) (hsz : l.length ≤ 1000000) (he : e.isSome = false) (hn : k + n ≤ l.length) : Ret Tryz.prog 101 #[.pointer (some ⟨c, 0, none⟩), .int .i64 ((n : Int))] W fun v W' => v = .slice (subP p cap k 1) (seg l k n).length (cap - k) ∧ Own W0 noX (.blk c (.cells #[.slice p l.length cap, .int .i64 (((k + n : Nat) : Int)), .int .i64 ((nE none))] 52 (0, 0)) :: L) W' := by
 refine enter Tryz.func101 rfl (n := 14) rfl (by kernel_rfl) (E0 := [(1, .int .i64 ((n : Int))), (0, .pointer (some ⟨c, 0, none⟩))]) (by kernel_rfl) ?_
 intro a hF; have hO := hO
 refine wp_seq_k fun K1 hK1 => ?_
 refine wp_region_lit ?_
 refine Vp hF (.slice none 0 0) ?_; clear hF; intro a hF
 refine L_nil ?_
 refine hK1 _ _ ?_
 refine wp_seq_k fun K2 hK2 => ?_
 refine wp_region_lit ?_
 refine Vp hF (.pointer (some ⟨c, 0, none⟩)) ?_; clear hF; intro a hF
 refine Vp hF (.int .i64 ((n : Int))) ?_; clear hF; intro a hF
 refine Lc hF (rcur_take_ok W0 _ c p cap l k e n W hO hl (by omega) (by omega) (by omega) (by assumption) (by assumption)) ?_
 clear hF; rintro _ W1 a ⟨rfl, hk⟩ hF; replace hO := hk; clear hk
 refine Vp hF (.tuple #[.slice (subP p cap k 1) n (cap - k), .bool true]) ?_; clear hF; intro a hF
 refine Vp hF (.slice (subP p cap k 1) n (cap - k)) ?_; clear hF; intro a hF
 refine Vp hF (.bool true) ?_; clear hF; intro a hF
 refine Vp hF (.slice (subP p cap k 1) n (cap - k)) ?_; clear hF; intro a hF
 refine Vp hF (.bool true) ?_; clear hF; intro a hF
 refine L_nil ?_
 refine hK2 _ _ ?_
 refine wp_seq_k fun K3 hK3 => ?_
 refine wp_region_lit ?_
 refine Vp hF (.slice (subP p cap k 1) n (cap - k)) ?_; clear hF; intro a hF
 refine Vp hF (.slice (subP p cap k 1) n (cap - k)) ?_; clear hF; intro a hF
 refine L_nil ?_
 refine hK3 _ _ ?_
 refine wp_ret ?_
 refine ret1 hF (v := .slice (subP p cap k 1) n (cap - k)) rfl (resT (by kernel_rfl)) (by refine ⟨?_, hO.sub (.cons_cons _ (List.Sublist.refl _))⟩; rw [seg_len hn]) .ret (.inl rfl)

set_option maxRecDepth 20000 in
theorem rcur_Num1_err (W0 : World) (L : List Chunk) (c : Nat) (p : Option Addr) (cap : Nat) (l : List UInt8) (k : Nat) (e : Option Nat) (W : World) (hO : Own W0 noX (.blk c (.cells #[.slice p l.length cap, .int .i64 ((k : Int)), .int .i64 ((nE e))] 52 (0, 0)) :: L) W) (hl : SlAt W0 p (l.flatMap u8L)) (hcap : l.length ≤ cap) (hk : k ≤ l.length) (hsz : l.length ≤ 1000000) (he : e.isSome = true) : Ret Tryz.prog 97 #[.pointer (some ⟨c, 0, none⟩), .int .i64 1] W fun v W' => v = .int .i64 0 ∧ Own W0 noX (.blk c (.cells #[.slice p l.length cap, .int .i64 ((k : Int)), .int .i64 ((nE e))] 52 (0, 0)) :: L) W' := by
 refine enter Tryz.func97 rfl (n := 77) rfl (by kernel_rfl) (E0 := [(1, .int .i64 1), (0, .pointer (some ⟨c, 0, none⟩))]) (by kernel_rfl) ?_
 intro a hF; have hO := hO
 refine wp_seq_k fun K1 hK1 => ?_
 refine wp_region_lit ?_
 refine Vp hF (.int .i64 0) ?_; clear hF; intro a hF
 refine L_nil ?_
 refine hK1 _ _ ?_
 refine wp_seq_k fun K2 hK2 => ?_
 refine wp_seq_k fun K3 hK3 => ?_
 refine wp_region_lit ?_
 refine Vp hF (.pointer (some ⟨c, 0, none⟩)) ?_; clear hF; intro a hF
 refine Vp hF (.pointer (some ⟨c, 0, none⟩)) ?_; clear hF; intro a hF
 refine Vp hF (.pointer (some ⟨c, 2, none⟩)) ?_; clear hF; intro a hF
 refine Vr hF (.int .i64 ((nE e))) (x_load (p := .pointer (some ⟨c, 2, none⟩)) rfl (by kernel_rfl) (run_load1 (by kernel_rfl) ((hO.cell List.mem_cons_self).trans (by kernel_rfl)))) ?_; clear hF; intro a hF
 refine Vr hF (.bool (!e.isSome)) (x_bool (x := (nE e == 0)) (nE_eq e) (by kernel_rfl)) ?_; clear hF; intro a hF
 refine Vp hF (.bool (!e.isSome)) ?_; clear hF; intro a hF
 replace hF := hF.know (d := 15) (v' := .bool false) (by kernel_rfl) (congrArg Value.bool (notF he))
 refine Lo hF ?_; clear hF; intro a hF
 refine Lo hF ?_; clear hF; intro a hF
 refine Lo hF ?_; clear hF; intro a hF
 refine Lo hF ?_; clear hF; intro a hF
 refine Lo hF ?_; clear hF; intro a hF
 refine Lo hF ?_; clear hF; intro a hF
 refine Vp hF (.bool false) ?_; clear hF; intro a hF
 refine L_nil ?_
 refine hK3 _ _ ?_
 refine cond_f hF (by kernel_rfl) (by kernel_rfl) ?_
 refine wp_skip ?_
 refine hK2 _ _ ?_
 refine wp_seq_k fun K4 hK4 => ?_
 refine wp_region_lit ?_
 refine Vp hF (.pointer (some ⟨c, 0, none⟩)) ?_; clear hF; intro a hF
 refine Vp hF (.int .i64 1) ?_; clear hF; intro a hF
 refine Lc hF (rcur_take_err W0 _ c p cap l k e 1 W hO hl (by omega) (by omega) (by omega) (by assumption)) ?_
 clear hF; rintro _ W1 a ⟨rfl, hk⟩ hF; replace hO := hk; clear hk
 refine Vp hF (.tuple #[.slice none 0 0, .bool false]) ?_; clear hF; intro a hF
 refine Vp hF (.slice none 0 0) ?_; clear hF; intro a hF
 refine Vp hF (.bool false) ?_; clear hF; intro a hF
 refine Vp hF (.slice none 0 0) ?_; clear hF; intro a hF
 refine Vp hF (.bool false) ?_; clear hF; intro a hF
 refine L_nil ?_
 refine hK4 _ _ ?_
 refine wp_seq_k fun K5 hK5 => ?_
 refine wp_seq_k fun K6 hK6 => ?_
 refine wp_region_lit ?_
 refine Vp hF (.bool false) ?_; clear hF; intro a hF
 refine Vp hF (.bool true) ?_; clear hF; intro a hF
 refine L_nil ?_
 refine hK6 _ _ ?_
 refine cond_t hF (by kernel_rfl) (by kernel_rfl) ?_
 refine wp_seq_k fun K7 hK7 => ?_
 refine wp_region_lit ?_
 refine Vp hF (.int .i64 0) ?_; clear hF; intro a hF
 refine L_nil ?_
 refine hK7 _ _ ?_
 refine wp_ret ?_
 refine then_ret ?_
 refine ret1 hF (v := .int .i64 0) rfl (resT (by kernel_rfl)) (by refine ⟨?_, hO.sub (.cons_cons _ (List.Sublist.refl _))⟩; first | rfl | (simp [*]; done)) .ret (.inl rfl)

set_option maxRecDepth 20000 in
theorem rcur_Num1_short (W0 : World) (L : List Chunk) (c : Nat) (p : Option Addr) (cap : Nat) (l : List UInt8) (k : Nat) (e : Option Nat) (W : World) (hO : Own W0 noX (.blk c (.cells #[.slice p l.length cap, .int .i64 ((k : Int)), .int .i64 ((nE e))] 52 (0, 0)) :: L) W) (hl : SlAt W0 p (l.flatMap u8L)) (hcap : l.length ≤ cap) (hk : k ≤ l.length) (hsz : l.length ≤ 1000000) (he : e.isSome = false) (hn : ¬ k + 1 ≤ l.length) : Ret Tryz.prog 97 #[.pointer (some ⟨c, 0, none⟩), .int .i64 1] W fun v W' => v = .int .i64 0 ∧ Own W0 noX (.blk c (.cells #[.slice p l.length cap, .int .i64 ((k : Int)), .int .i64 ((nE (some 1)))] 52 (0, 0)) :: L) W' := by
 refine enter Tryz.func97 rfl (n := 77) rfl (by kernel_rfl) (E0 := [(1, .int .i64 1), (0, .pointer (some ⟨c, 0, none⟩))]) (by kernel_rfl) ?_
 intro a hF; have hO := hO
 refine wp_seq_k fun K1 hK1 => ?_
 refine wp_region_lit ?_
 refine Vp hF (.int .i64 0) ?_; clear hF; intro a hF
 refine L_nil ?_
 refine hK1 _ _ ?_
 refine wp_seq_k fun K2 hK2 => ?_
 refine wp_seq_k fun K3 hK3 => ?_
 refine wp_region_lit ?_
 refine Vp hF (.pointer (some ⟨c, 0, none⟩)) ?_; clear hF; intro a hF
 refine Vp hF (.pointer (some ⟨c, 0, none⟩)) ?_; clear hF; intro a hF
 refine Vp hF (.pointer (some ⟨c, 2, none⟩)) ?_; clear hF; intro a hF
 refine Vr hF (.int .i64 ((nE e))) (x_load (p := .pointer (some ⟨c, 2, none⟩)) rfl (by kernel_rfl) (run_load1 (by kernel_rfl) ((hO.cell List.mem_cons_self).trans (by kernel_rfl)))) ?_; clear hF; intro a hF
 refine Vr hF (.bool (!e.isSome)) (x_bool (x := (nE e == 0)) (nE_eq e) (by kernel_rfl)) ?_; clear hF; intro a hF
 refine Vp hF (.bool (!e.isSome)) ?_; clear hF; intro a hF
 replace hF := hF.know (d := 15) (v' := .bool true) (by kernel_rfl) (congrArg Value.bool (notT he))
 refine Vp hF (.int .i64 1) ?_; clear hF; intro a hF
 refine Vp hF (.bool false) ?_; clear hF; intro a hF
 refine Vp hF (.bool false) ?_; clear hF; intro a hF
 refine Vp hF (.int .i64 1) ?_; clear hF; intro a hF
 refine Vp hF (.bool false) ?_; clear hF; intro a hF
 refine Vp hF (.bool false) ?_; clear hF; intro a hF
 refine Vp hF (.bool false) ?_; clear hF; intro a hF
 refine L_nil ?_
 refine hK3 _ _ ?_
 refine cond_f hF (by kernel_rfl) (by kernel_rfl) ?_
 refine wp_skip ?_
 refine hK2 _ _ ?_
 refine wp_seq_k fun K4 hK4 => ?_
 refine wp_region_lit ?_
 refine Vp hF (.pointer (some ⟨c, 0, none⟩)) ?_; clear hF; intro a hF
 refine Vp hF (.int .i64 1) ?_; clear hF; intro a hF
 refine Lc hF (rcur_take_short W0 _ c p cap l k e 1 W hO hl (by omega) (by omega) (by omega) (by assumption) (by assumption)) ?_
 clear hF; rintro _ W1 a ⟨rfl, hk⟩ hF; replace hO := hk; clear hk
 refine Vp hF (.tuple #[.slice none 0 0, .bool false]) ?_; clear hF; intro a hF
 refine Vp hF (.slice none 0 0) ?_; clear hF; intro a hF
 refine Vp hF (.bool false) ?_; clear hF; intro a hF
 refine Vp hF (.slice none 0 0) ?_; clear hF; intro a hF
 refine Vp hF (.bool false) ?_; clear hF; intro a hF
 refine L_nil ?_
 refine hK4 _ _ ?_
 refine wp_seq_k fun K5 hK5 => ?_
 refine wp_seq_k fun K6 hK6 => ?_
 refine wp_region_lit ?_
 refine Vp hF (.bool false) ?_; clear hF; intro a hF
 refine Vp hF (.bool true) ?_; clear hF; intro a hF
 refine L_nil ?_
 refine hK6 _ _ ?_
 refine cond_t hF (by kernel_rfl) (by kernel_rfl) ?_
 refine wp_seq_k fun K7 hK7 => ?_
 refine wp_region_lit ?_
 refine Vp hF (.int .i64 0) ?_; clear hF; intro a hF
 refine L_nil ?_
 refine hK7 _ _ ?_
 refine wp_ret ?_
 refine then_ret ?_
 refine ret1 hF (v := .int .i64 0) rfl (resT (by kernel_rfl)) (by refine ⟨?_, hO.sub (.cons_cons _ (List.Sublist.refl _))⟩; first | rfl | (simp [*]; done)) .ret (.inl rfl)

set_option maxRecDepth 20000 in
theorem rcur_Num1_ok (W0 : World) (L : List Chunk) (c : Nat) (p : Option Addr) (cap : Nat) (l : List UInt8) (k : Nat) (e : Option Nat) (W : World) (hO : Own W0 noX (.blk c (.cells #[.slice p l.length cap, .int .i64 ((k : Int)), .int .i64 ((nE e))] 52 (0, 0)) :: L) W) (hl : SlAt W0 p (l.flatMap u8L)) (hcap : l.length ≤ cap) (hk : k ≤ l.length) (hsz : l.length ≤ 1000000) (he : e.isSome = false) (hn : k + 1 ≤ l.length) : Ret Tryz.prog 97 #[.pointer (some ⟨c, 0, none⟩), .int .i64 1] W fun v W' => v = .int .i64 (numB (seg l k 1) : Int) ∧ Own W0 noX (.blk c (.cells #[.slice p l.length cap, .int .i64 (((k + 1 : Nat) : Int)), .int .i64 ((nE none))] 52 (0, 0)) :: L) W' := by
 refine enter Tryz.func97 rfl (n := 77) rfl (by kernel_rfl) (E0 := [(1, .int .i64 1), (0, .pointer (some ⟨c, 0, none⟩))]) (by kernel_rfl) ?_
 intro a hF; have hO := hO
 refine wp_seq_k fun K1 hK1 => ?_
 refine wp_region_lit ?_
 refine Vp hF (.int .i64 0) ?_; clear hF; intro a hF
 refine L_nil ?_
 refine hK1 _ _ ?_
 refine wp_seq_k fun K2 hK2 => ?_
 refine wp_seq_k fun K3 hK3 => ?_
 refine wp_region_lit ?_
 refine Vp hF (.pointer (some ⟨c, 0, none⟩)) ?_; clear hF; intro a hF
 refine Vp hF (.pointer (some ⟨c, 0, none⟩)) ?_; clear hF; intro a hF
 refine Vp hF (.pointer (some ⟨c, 2, none⟩)) ?_; clear hF; intro a hF
 refine Vr hF (.int .i64 ((nE e))) (x_load (p := .pointer (some ⟨c, 2, none⟩)) rfl (by kernel_rfl) (run_load1 (by kernel_rfl) ((hO.cell List.mem_cons_self).trans (by kernel_rfl)))) ?_; clear hF; intro a hF
 refine Vr hF (.bool (!e.isSome)) (x_bool (x := (nE e == 0)) (nE_eq e) (by kernel_rfl)) ?_; clear hF; intro a hF
 refine Vp hF (.bool (!e.isSome)) ?_; clear hF; intro a hF
 replace hF := hF.know (d := 15) (v' := .bool true) (by kernel_rfl) (congrArg Value.bool (notT he))
 refine Vp hF (.int .i64 1) ?_; clear hF; intro a hF
 refine Vp hF (.bool false) ?_; clear hF; intro a hF
 refine Vp hF (.bool false) ?_; clear hF; intro a hF
 refine Vp hF (.int .i64 1) ?_; clear hF; intro a hF
 refine Vp hF (.bool false) ?_; clear hF; intro a hF
 refine Vp hF (.bool false) ?_; clear hF; intro a hF
 refine Vp hF (.bool false) ?_; clear hF; intro a hF
 refine L_nil ?_
 refine hK3 _ _ ?_
 refine cond_f hF (by kernel_rfl) (by kernel_rfl) ?_
 refine wp_skip ?_
 refine hK2 _ _ ?_
 refine wp_seq_k fun K4 hK4 => ?_
 refine wp_region_lit ?_
 refine Vp hF (.pointer (some ⟨c, 0, none⟩)) ?_; clear hF; intro a hF
 refine Vp hF (.int .i64 1) ?_; clear hF; intro a hF
 refine Lc hF (rcur_take_ok W0 _ c p cap l k e 1 W hO hl (by omega) (by omega) (by omega) (by assumption) (by assumption)) ?_
 clear hF; rintro _ W1 a ⟨rfl, hk⟩ hF; replace hO := hk; clear hk
 refine Vp hF (.tuple #[.slice (subP p cap k 1) 1 (cap - k), .bool true]) ?_; clear hF; intro a hF
 refine Vp hF (.slice (subP p cap k 1) 1 (cap - k)) ?_; clear hF; intro a hF
 refine Vp hF (.bool true) ?_; clear hF; intro a hF
 refine Vp hF (.slice (subP p cap k 1) 1 (cap - k)) ?_; clear hF; intro a hF
 refine Vp hF (.bool true) ?_; clear hF; intro a hF
 refine L_nil ?_
 refine hK4 _ _ ?_
 refine wp_seq_k fun K5 hK5 => ?_
 refine wp_seq_k fun K6 hK6 => ?_
 refine wp_region_lit ?_
 refine Vp hF (.bool true) ?_; clear hF; intro a hF
 refine Vp hF (.bool false) ?_; clear hF; intro a hF
 refine L_nil ?_
 refine hK6 _ _ ?_
 refine cond_f hF (by kernel_rfl) (by kernel_rfl) ?_
 refine wp_skip ?_
 refine hK5 _ _ ?_
 refine wp_seq_k fun K7 hK7 => ?_
 refine wp_seq_k fun K8 hK8 => ?_
 refine wp_region_lit ?_
 refine Vp hF (.int .i64 1) ?_; clear hF; intro a hF
 refine Vp hF (.bool false) ?_; clear hF; intro a hF
 refine Vp hF (.bool false) ?_; clear hF; intro a hF
 refine Lo hF ?_; clear hF; intro a hF
 refine Lo hF ?_; clear hF; intro a hF
 refine Lo hF ?_; clear hF; intro a hF
 refine Lo hF ?_; clear hF; intro a hF
 refine Lo hF ?_; clear hF; intro a hF
 refine Lo hF ?_; clear hF; intro a hF
 refine Lo hF ?_; clear hF; intro a hF
 refine Lo hF ?_; clear hF; intro a hF
 refine Lo hF ?_; clear hF; intro a hF
 refine Lo hF ?_; clear hF; intro a hF
 refine Lo hF ?_; clear hF; intro a hF
 refine Lo hF ?_; clear hF; intro a hF
 refine Lo hF ?_; clear hF; intro a hF
 refine Lo hF ?_; clear hF; intro a hF
 refine Lo hF ?_; clear hF; intro a hF
 refine Lo hF ?_; clear hF; intro a hF
 refine Vp hF (.bool false) ?_; clear hF; intro a hF
 refine L_nil ?_
 refine hK8 _ _ ?_
 refine cond_f hF (by kernel_rfl) (by kernel_rfl) ?_
 refine wp_skip ?_
 refine hK7 _ _ ?_
 refine wp_seq_k fun K9 hK9 => ?_
 refine wp_region_lit ?_
 refine Vp hF (.int .i64 0) ?_; clear hF; intro a hF
 refine L_nil ?_
 refine hK9 _ _ ?_
 refine wp_seq_k fun K10 hK10 => ?_
 refine wp_seq_k fun K11 hK11 => ?_
 refine wp_region_lit ?_
 refine Vp hF (.slice (subP p cap k 1) 1 (cap - k)) ?_; clear hF; intro a hF
 refine Vp hF (.int .i64 ((1 : Int))) ?_; clear hF; intro a hF
 refine Vp hF (.int .i64 0) ?_; clear hF; intro a hF
 refine L_nil ?_
 refine hK11 _ _ ?_
 refine wp_block ?_
 have hsg := seg_len hn
 refine loopX (τ := Nat) (fun (i : Nat) a Wx => (i ≤ 1) ∧ Fr 77 a [(4, .int .i64 0), (7, .int .i64 ((numB (List.take i (seg l k 1)) : Int))), (64, .slice (subP p cap k 1) 1 (cap - k)), (65, .int .i64 ((1 : Int))), (66, .int .i64 ((i : Int)))] ∧ Own W0 noX (.blk c (.cells #[.slice p l.length cap, .int .i64 (((k + 1 : Nat) : Int)), .int .i64 ((nE none))] 52 (0, 0)) :: L) Wx) (fun (i : Nat) => 1 - i) (0) ⟨Nat.zero_le _, ?_, ?_⟩ ?_
 · exact hF.restrict ⟨(by kernel_rfl), (congrArg some (by first | rfl | exact congrArg (Value.int _) (by omega) | simp)), (by kernel_rfl), (by kernel_rfl), (congrArg some (by first | rfl | exact congrArg (Value.int _) (by omega) | simp)), trivial⟩
 · exact hO.sub (.cons_cons _ (List.Sublist.refl _))
 clear hF hO; rintro i a Wl1 ⟨hI, hF, hO⟩ KhK_1 hK_1
 try dsimp only at hI
 refine wp_seq_k fun K12 hK12 => ?_
 refine wp_region_lit ?_
 refine Vp hF (.bool (decide ((i : Int) < (1 : Int)))) ?_; clear hF; intro a hF
 refine L_nil ?_
 refine hK12 _ _ ?_
 refine wp_seq_k fun K13 hK13 => ?_
 by_cases q1 : (i : Int) < (1 : Int)
 ·
  replace hF := hF.know (d := 67) (v' := .bool true) (by kernel_rfl) (congrArg Value.bool (decide_eq_true q1))
  refine cond_t hF (by kernel_rfl) (by kernel_rfl) ?_
  refine wp_skip ?_
  refine hK13 _ _ ?_
  refine wp_seq_k fun K14 hK14 => ?_
  refine wp_block ?_
  refine wp_seq_k fun K15 hK15 => ?_
  refine wp_region_lit ?_
  refine Vr hF (.pointer (some ⟨(ab (subP p cap k 1)), ao (subP p cap k 1) + i * 1, none⟩)) (x_idxAddrS (p := subP p cap k 1) (len := 1) (cap := cap - k) (elem := 5) (kd := .i64) (k := 1) (i := (i : Int)) rfl (by kernel_rfl) (by kernel_rfl) (by kernel_rfl) (by kernel_rfl) (by omega) (by omega) (SlAt.ne (k := 1) (SlAt.dropL (k := 1) (SlAt.takeL (k := 1) (hl.own hO) (fun _ => rfl) (k + 1)) (fun _ => rfl) cap k (by simp only [List.length_take]; omega)) (fun _ => rfl) (by decide) (by (first | omega | (simp only [List.length_set, List.length_take, List.length_drop, List.length_append, List.length_cons, List.length_nil]; done) | (simp only [List.length_set, List.length_take, List.length_drop, List.length_append, List.length_cons, List.length_nil]; omega) | (simp only [List.length_set, List.length_take, List.length_drop, List.length_append, List.length_cons, List.length_nil] at *; omega)) : i < (seg l k 1).length))) ?_; clear hF; intro a hF
  refine Vr hF (.int .u8 (((nth (seg l k 1) i).toNat : Int))) (x_load (p := .pointer (some ⟨(ab (subP p cap k 1)), ao (subP p cap k 1) + i * 1, none⟩)) rfl (by kernel_rfl) (run_loadEl1 (by kernel_rfl) (SlAt.dropL (k := 1) (SlAt.takeL (k := 1) (hl.own hO) (fun _ => rfl) (k + 1)) (fun _ => rfl) cap k (by simp only [List.length_take]; omega)) (fun _ => rfl) (by (first | omega | (simp only [List.length_set, List.length_take, List.length_drop, List.length_append, List.length_cons, List.length_nil]; done) | (simp only [List.length_set, List.length_take, List.length_drop, List.length_append, List.length_cons, List.length_nil]; omega) | (simp only [List.length_set, List.length_take, List.length_drop, List.length_append, List.length_cons, List.length_nil] at *; omega))) rfl)) ?_; clear hF; intro a hF
  refine Vp hF (.int .u8 (((nth (seg l k 1) i).toNat : Int))) ?_; clear hF; intro a hF
  refine L_nil ?_
  refine hK15 _ _ ?_
  refine wp_region_lit ?_
  refine Vp hF (.int .i64 ((numB (List.take i (seg l k 1)) : Int))) ?_; clear hF; intro a hF
  refine Vr hF (.int .i64 ((numB (List.take i (seg l k 1)) : Int) * 256)) (x_int (x := IntKind.i64.wrap ((numB (List.take i (seg l k 1)) : Int) * 256)) (i64In (by (first | omega | (have hq := UInt8.toNat_lt (nth (seg l k 1) i); have hq2 := numB_le (l := List.take i (seg l k 1)) (by simp only [List.length_take]; omega); omega))) (by (first | omega | (have hq := UInt8.toNat_lt (nth (seg l k 1) i); have hq2 := numB_le (l := List.take i (seg l k 1)) (by simp only [List.length_take]; omega); omega)))) (by kernel_rfl)) ?_; clear hF; intro a hF
  refine Vp hF (.int .u8 (((nth (seg l k 1) i).toNat : Int))) ?_; clear hF; intro a hF
  refine Vr hF (.int .i64 (((nth (seg l k 1) i).toNat : Int))) (x_int (x := IntKind.i64.wrap (((nth (seg l k 1) i).toNat : Int))) (i64In (by have := UInt8.toNat_lt (nth (seg l k 1) i); omega) (by have := UInt8.toNat_lt (nth (seg l k 1) i); omega)) (by kernel_rfl)) ?_; clear hF; intro a hF
  refine Vr hF (.int .i64 (((numB (List.take i (seg l k 1)) * 256 + (nth (seg l k 1) i).toNat : Nat) : Int))) (x_int (x := IntKind.i64.wrap ((numB (List.take i (seg l k 1)) : Int) * 256 + ((nth (seg l k 1) i).toNat : Int))) ((i64In (by (first | omega | (have hq := UInt8.toNat_lt (nth (seg l k 1) i); have hq2 := numB_le (l := List.take i (seg l k 1)) (by simp only [List.length_take]; omega); omega))) (by (first | omega | (have hq := UInt8.toNat_lt (nth (seg l k 1) i); have hq2 := numB_le (l := List.take i (seg l k 1)) (by simp only [List.length_take]; omega); omega)))).trans (by omega)) (by kernel_rfl)) ?_; clear hF; intro a hF
  refine Vp hF (.int .i64 (((numB (List.take i (seg l k 1)) * 256 + (nth (seg l k 1) i).toNat : Nat) : Int))) ?_; clear hF; intro a hF
  refine L_nil ?_
  refine block_normal ?_
  refine hK14 _ _ ?_
  refine wp_region_lit ?_
  refine Vr hF (.int .i64 ((i : Int) + 1)) (x_int (x := IntKind.i64.wrap ((i : Int) + 1)) (i64In (by omega) (by omega)) (by kernel_rfl)) ?_; clear hF; intro a hF
  refine Vp hF (.int .i64 ((i : Int) + 1)) ?_; clear hF; intro a hF
  refine L_nil ?_
  refine hK_1 (i + 1) _ _ (by first | omega | (dsimp only; omega)) ⟨by omega, ?_, ?_⟩
  · exact hF.restrict ⟨(by kernel_rfl), (congrArg some (by first | rfl | exact congrArg (Value.int _) (by omega) | exact congrArg (fun z : Nat => Value.int .i64 (z : Int)) (numB_take (by omega)).symm)), (by kernel_rfl), (by kernel_rfl), (congrArg some (by first | rfl | exact congrArg (Value.int _) (by omega) | exact congrArg (fun z : Nat => Value.int .i64 (z : Int)) (numB_take (by omega)).symm)), trivial⟩
  · exact hO.sub (.cons_cons _ (List.Sublist.refl _))
 ·
  replace hF := hF.know (d := 67) (v' := .bool false) (by kernel_rfl) (congrArg Value.bool (decide_eq_false q1))
  refine cond_f hF (by kernel_rfl) (by kernel_rfl) ?_
  refine wp_exit ?_
  refine then_exit ?_
  refine then_exit ?_
  refine inBlock_hit ?_
  refine hK10 _ _ ?_
  refine wp_seq_k fun K16 hK16 => ?_
  refine wp_region_lit ?_
  refine Vp hF (.int .i64 ((numB (List.take i (seg l k 1)) : Int))) ?_; clear hF; intro a hF
  refine Vp hF (.int .i64 ((numB (List.take i (seg l k 1)) : Int))) ?_; clear hF; intro a hF
  refine L_nil ?_
  refine hK16 _ _ ?_
  refine wp_ret ?_
  refine ret1 hF (v := .int .i64 ((numB (List.take i (seg l k 1)) : Int))) rfl (resT (by kernel_rfl)) (by refine ⟨?_, hO.sub (.cons_cons _ (List.Sublist.refl _))⟩; obtain rfl : i = 1 := (by omega); rw [List.take_of_length_le (by omega)]) .ret (.inl rfl)

set_option maxRecDepth 20000 in
theorem rcur_Num2_err (W0 : World) (L : List Chunk) (c : Nat) (p : Option Addr) (cap : Nat) (l : List UInt8) (k : Nat) (e : Option Nat) (W : World) (hO : Own W0 noX (.blk c (.cells #[.slice p l.length cap, .int .i64 ((k : Int)), .int .i64 ((nE e))] 52 (0, 0)) :: L) W) (hl : SlAt W0 p (l.flatMap u8L)) (hcap : l.length ≤ cap) (hk : k ≤ l.length) (hsz : l.length ≤ 1000000) (he : e.isSome = true) : Ret Tryz.prog 97 #[.pointer (some ⟨c, 0, none⟩), .int .i64 2] W fun v W' => v = .int .i64 0 ∧ Own W0 noX (.blk c (.cells #[.slice p l.length cap, .int .i64 ((k : Int)), .int .i64 ((nE e))] 52 (0, 0)) :: L) W' := by
 refine enter Tryz.func97 rfl (n := 77) rfl (by kernel_rfl) (E0 := [(1, .int .i64 2), (0, .pointer (some ⟨c, 0, none⟩))]) (by kernel_rfl) ?_
 intro a hF; have hO := hO
 refine wp_seq_k fun K1 hK1 => ?_
 refine wp_region_lit ?_
 refine Vp hF (.int .i64 0) ?_; clear hF; intro a hF
 refine L_nil ?_
 refine hK1 _ _ ?_
 refine wp_seq_k fun K2 hK2 => ?_
 refine wp_seq_k fun K3 hK3 => ?_
 refine wp_region_lit ?_
 refine Vp hF (.pointer (some ⟨c, 0, none⟩)) ?_; clear hF; intro a hF
 refine Vp hF (.pointer (some ⟨c, 0, none⟩)) ?_; clear hF; intro a hF
 refine Vp hF (.pointer (some ⟨c, 2, none⟩)) ?_; clear hF; intro a hF
 refine Vr hF (.int .i64 ((nE e))) (x_load (p := .pointer (some ⟨c, 2, none⟩)) rfl (by kernel_rfl) (run_load1 (by kernel_rfl) ((hO.cell List.mem_cons_self).trans (by kernel_rfl)))) ?_; clear hF; intro a hF
 refine Vr hF (.bool (!e.isSome)) (x_bool (x := (nE e == 0)) (nE_eq e) (by kernel_rfl)) ?_; clear hF; intro a hF
 refine Vp hF (.bool (!e.isSome)) ?_; clear hF; intro a hF
 replace hF := hF.know (d := 15) (v' := .bool false) (by kernel_rfl) (congrArg Value.bool (notF he))
 refine Lo hF ?_; clear hF; intro a hF
 refine Lo hF ?_; clear hF; intro a hF
 refine Lo hF ?_; clear hF; intro a hF
 refine Lo hF ?_; clear hF; intro a hF
 refine Lo hF ?_; clear hF; intro a hF
 refine Lo hF ?_; clear hF; intro a hF
 refine Vp hF (.bool false) ?_; clear hF; intro a hF
 refine L_nil ?_
 refine hK3 _ _ ?_
 refine cond_f hF (by kernel_rfl) (by kernel_rfl) ?_
 refine wp_skip ?_
 refine hK2 _ _ ?_
 refine wp_seq_k fun K4 hK4 => ?_
 refine wp_region_lit ?_
 refine Vp hF (.pointer (some ⟨c, 0, none⟩)) ?_; clear hF; intro a hF
 refine Vp hF (.int .i64 2) ?_; clear hF; intro a hF
 refine Lc hF (rcur_take_err W0 _ c p cap l k e 2 W hO hl (by omega) (by omega) (by omega) (by assumption)) ?_
 clear hF; rintro _ W1 a ⟨rfl, hk⟩ hF; replace hO := hk; clear hk
 refine Vp hF (.tuple #[.slice none 0 0, .bool false]) ?_; clear hF; intro a hF
 refine Vp hF (.slice none 0 0) ?_; clear hF; intro a hF
 refine Vp hF (.bool false) ?_; clear hF; intro a hF
 refine Vp hF (.slice none 0 0) ?_; clear hF; intro a hF
 refine Vp hF (.bool false) ?_; clear hF; intro a hF
 refine L_nil ?_
 refine hK4 _ _ ?_
 refine wp_seq_k fun K5 hK5 => ?_
 refine wp_seq_k fun K6 hK6 => ?_
 refine wp_region_lit ?_
 refine Vp hF (.bool false) ?_; clear hF; intro a hF
 refine Vp hF (.bool true) ?_; clear hF; intro a hF
 refine L_nil ?_
 refine hK6 _ _ ?_
 refine cond_t hF (by kernel_rfl) (by kernel_rfl) ?_
 refine wp_seq_k fun K7 hK7 => ?_
 refine wp_region_lit ?_
 refine Vp hF (.int .i64 0) ?_; clear hF; intro a hF
 refine L_nil ?_
 refine hK7 _ _ ?_
 refine wp_ret ?_
 refine then_ret ?_
 refine ret1 hF (v := .int .i64 0) rfl (resT (by kernel_rfl)) (by refine ⟨?_, hO.sub (.cons_cons _ (List.Sublist.refl _))⟩; first | rfl | (simp [*]; done)) .ret (.inl rfl)

set_option maxRecDepth 20000 in
theorem rcur_Num2_short (W0 : World) (L : List Chunk) (c : Nat) (p : Option Addr) (cap : Nat) (l : List UInt8) (k : Nat) (e : Option Nat) (W : World) (hO : Own W0 noX (.blk c (.cells #[.slice p l.length cap, .int .i64 ((k : Int)), .int .i64 ((nE e))] 52 (0, 0)) :: L) W) (hl : SlAt W0 p (l.flatMap u8L)) (hcap : l.length ≤ cap) (hk : k ≤ l.length) (hsz : l.length ≤ 1000000) (he : e.isSome = false) (hn : ¬ k + 2 ≤ l.length) : Ret Tryz.prog 97 #[.pointer (some ⟨c, 0, none⟩), .int .i64 2] W fun v W' => v = .int .i64 0 ∧ Own W0 noX (.blk c (.cells #[.slice p l.length cap, .int .i64 ((k : Int)), .int .i64 ((nE (some 1)))] 52 (0, 0)) :: L) W' := by
 refine enter Tryz.func97 rfl (n := 77) rfl (by kernel_rfl) (E0 := [(1, .int .i64 2), (0, .pointer (some ⟨c, 0, none⟩))]) (by kernel_rfl) ?_
 intro a hF; have hO := hO
 refine wp_seq_k fun K1 hK1 => ?_
 refine wp_region_lit ?_
 refine Vp hF (.int .i64 0) ?_; clear hF; intro a hF
 refine L_nil ?_
 refine hK1 _ _ ?_
 refine wp_seq_k fun K2 hK2 => ?_
 refine wp_seq_k fun K3 hK3 => ?_
 refine wp_region_lit ?_
 refine Vp hF (.pointer (some ⟨c, 0, none⟩)) ?_; clear hF; intro a hF
 refine Vp hF (.pointer (some ⟨c, 0, none⟩)) ?_; clear hF; intro a hF
 refine Vp hF (.pointer (some ⟨c, 2, none⟩)) ?_; clear hF; intro a hF
 refine Vr hF (.int .i64 ((nE e))) (x_load (p := .pointer (some ⟨c, 2, none⟩)) rfl (by kernel_rfl) (run_load1 (by kernel_rfl) ((hO.cell List.mem_cons_self).trans (by kernel_rfl)))) ?_; clear hF; intro a hF
 refine Vr hF (.bool (!e.isSome)) (x_bool (x := (nE e == 0)) (nE_eq e) (by kernel_rfl)) ?_; clear hF; intro a hF
 refine Vp hF (.bool (!e.isSome)) ?_; clear hF; intro a hF
 replace hF := hF.know (d := 15) (v' := .bool true) (by kernel_rfl) (congrArg Value.bool (notT he))
 refine Vp hF (.int .i64 2) ?_; clear hF; intro a hF
 refine Vp hF (.bool false) ?_; clear hF; intro a hF
 refine Vp hF (.bool false) ?_; clear hF; intro a hF
 refine Vp hF (.int .i64 2) ?_; clear hF; intro a hF
 refine Vp hF (.bool false) ?_; clear hF; intro a hF
 refine Vp hF (.bool false) ?_; clear hF; intro a hF
 refine Vp hF (.bool false) ?_; clear hF; intro a hF
 refine L_nil ?_
 refine hK3 _ _ ?_
 refine cond_f hF (by kernel_rfl) (by kernel_rfl) ?_
 refine wp_skip ?_
 refine hK2 _ _ ?_
 refine wp_seq_k fun K4 hK4 => ?_
 refine wp_region_lit ?_
 refine Vp hF (.pointer (some ⟨c, 0, none⟩)) ?_; clear hF; intro a hF
 refine Vp hF (.int .i64 2) ?_; clear hF; intro a hF
 refine Lc hF (rcur_take_short W0 _ c p cap l k e 2 W hO hl (by omega) (by omega) (by omega) (by assumption) (by assumption)) ?_
 clear hF; rintro _ W1 a ⟨rfl, hk⟩ hF; replace hO := hk; clear hk
 refine Vp hF (.tuple #[.slice none 0 0, .bool false]) ?_; clear hF; intro a hF
 refine Vp hF (.slice none 0 0) ?_; clear hF; intro a hF
 refine Vp hF (.bool false) ?_; clear hF; intro a hF
 refine Vp hF (.slice none 0 0) ?_; clear hF; intro a hF
 refine Vp hF (.bool false) ?_; clear hF; intro a hF
 refine L_nil ?_
 refine hK4 _ _ ?_
 refine wp_seq_k fun K5 hK5 => ?_
 refine wp_seq_k fun K6 hK6 => ?_
 refine wp_region_lit ?_
 refine Vp hF (.bool false) ?_; clear hF; intro a hF
 refine Vp hF (.bool true) ?_; clear hF; intro a hF
 refine L_nil ?_
 refine hK6 _ _ ?_
 refine cond_t hF (by kernel_rfl) (by kernel_rfl) ?_
 refine wp_seq_k fun K7 hK7 => ?_
 refine wp_region_lit ?_
 refine Vp hF (.int .i64 0) ?_; clear hF; intro a hF
 refine L_nil ?_
 refine hK7 _ _ ?_
 refine wp_ret ?_
 refine then_ret ?_
 refine ret1 hF (v := .int .i64 0) rfl (resT (by kernel_rfl)) (by refine ⟨?_, hO.sub (.cons_cons _ (List.Sublist.refl _))⟩; first | rfl | (simp [*]; done)) .ret (.inl rfl)

set_option maxRecDepth 20000 in
theorem rcur_Num2_ok (W0 : World) (L : List Chunk) (c : Nat) (p : Option Addr) (cap : Nat) (l : List UInt8) (k : Nat) (e : Option Nat) (W : World) (hO : Own W0 noX (.blk c (.cells #[.slice p l.length cap, .int .i64 ((k : Int)), .int .i64 ((nE e))] 52 (0, 0)) :: L) W) (hl : SlAt W0 p (l.flatMap u8L)) (hcap : l.length ≤ cap) (hk : k ≤ l.length) (hsz : l.length ≤ 1000000) (he : e.isSome = false) (hn : k + 2 ≤ l.length) : Ret Tryz.prog 97 #[.pointer (some ⟨c, 0, none⟩), .int .i64 2] W fun v W' => v = .int .i64 (numB (seg l k 2) : Int) ∧ Own W0 noX (.blk c (.cells #[.slice p l.length cap, .int .i64 (((k + 2 : Nat) : Int)), .int .i64 ((nE none))] 52 (0, 0)) :: L) W' := by
 refine enter Tryz.func97 rfl (n := 77) rfl (by kernel_rfl) (E0 := [(1, .int .i64 2), (0, .pointer (some ⟨c, 0, none⟩))]) (by kernel_rfl) ?_
 intro a hF; have hO := hO
 refine wp_seq_k fun K1 hK1 => ?_
 refine wp_region_lit ?_
 refine Vp hF (.int .i64 0) ?_; clear hF; intro a hF
 refine L_nil ?_
 refine hK1 _ _ ?_
 refine wp_seq_k fun K2 hK2 => ?_
 refine wp_seq_k fun K3 hK3 => ?_
 refine wp_region_lit ?_
 refine Vp hF (.pointer (some ⟨c, 0, none⟩)) ?_; clear hF; intro a hF
 refine Vp hF (.pointer (some ⟨c, 0, none⟩)) ?_; clear hF; intro a hF
 refine Vp hF (.pointer (some ⟨c, 2, none⟩)) ?_; clear hF; intro a hF
 refine Vr hF (.int .i64 ((nE e))) (x_load (p := .pointer (some ⟨c, 2, none⟩)) rfl (by kernel_rfl) (run_load1 (by kernel_rfl) ((hO.cell List.mem_cons_self).trans (by kernel_rfl)))) ?_; clear hF; intro a hF
 refine Vr hF (.bool (!e.isSome)) (x_bool (x := (nE e == 0)) (nE_eq e) (by kernel_rfl)) ?_; clear hF; intro a hF
 refine Vp hF (.bool (!e.isSome)) ?_; clear hF; intro a hF
 replace hF := hF.know (d := 15) (v' := .bool true) (by kernel_rfl) (congrArg Value.bool (notT he))
 refine Vp hF (.int .i64 2) ?_; clear hF; intro a hF
 refine Vp hF (.bool false) ?_; clear hF; intro a hF
 refine Vp hF (.bool false) ?_; clear hF; intro a hF
 refine Vp hF (.int .i64 2) ?_; clear hF; intro a hF
 refine Vp hF (.bool false) ?_; clear hF; intro a hF
 refine Vp hF (.bool false) ?_; clear hF; intro a hF
 refine Vp hF (.bool false) ?_; clear hF; intro a hF
 refine L_nil ?_
 refine hK3 _ _ ?_
 refine cond_f hF (by kernel_rfl) (by kernel_rfl) ?_
 refine wp_skip ?_
 refine hK2 _ _ ?_
 refine wp_seq_k fun K4 hK4 => ?_
 refine wp_region_lit ?_
 refine Vp hF (.pointer (some ⟨c, 0, none⟩)) ?_; clear hF; intro a hF
 refine Vp hF (.int .i64 2) ?_; clear hF; intro a hF
 refine Lc hF (rcur_take_ok W0 _ c p cap l k e 2 W hO hl (by omega) (by omega) (by omega) (by assumption) (by assumption)) ?_
 clear hF; rintro _ W1 a ⟨rfl, hk⟩ hF; replace hO := hk; clear hk
 refine Vp hF (.tuple #[.slice (subP p cap k 1) 2 (cap - k), .bool true]) ?_; clear hF; intro a hF
 refine Vp hF (.slice (subP p cap k 1) 2 (cap - k)) ?_; clear hF; intro a hF
 refine Vp hF (.bool true) ?_; clear hF; intro a hF
 refine Vp hF (.slice (subP p cap k 1) 2 (cap - k)) ?_; clear hF; intro a hF
 refine Vp hF (.bool true) ?_; clear hF; intro a hF
 refine L_nil ?_
 refine hK4 _ _ ?_
 refine wp_seq_k fun K5 hK5 => ?_
 refine wp_seq_k fun K6 hK6 => ?_
 refine wp_region_lit ?_
 refine Vp hF (.bool true) ?_; clear hF; intro a hF
 refine Vp hF (.bool false) ?_; clear hF; intro a hF
 refine L_nil ?_
 refine hK6 _ _ ?_
 refine cond_f hF (by kernel_rfl) (by kernel_rfl) ?_
 refine wp_skip ?_
 refine hK5 _ _ ?_
 refine wp_seq_k fun K7 hK7 => ?_
 refine wp_seq_k fun K8 hK8 => ?_
 refine wp_region_lit ?_
 refine Vp hF (.int .i64 2) ?_; clear hF; intro a hF
 refine Vp hF (.bool false) ?_; clear hF; intro a hF
 refine Vp hF (.bool false) ?_; clear hF; intro a hF
 refine Lo hF ?_; clear hF; intro a hF
 refine Lo hF ?_; clear hF; intro a hF
 refine Lo hF ?_; clear hF; intro a hF
 refine Lo hF ?_; clear hF; intro a hF
 refine Lo hF ?_; clear hF; intro a hF
 refine Lo hF ?_; clear hF; intro a hF
 refine Lo hF ?_; clear hF; intro a hF
 refine Lo hF ?_; clear hF; intro a hF
 refine Lo hF ?_; clear hF; intro a hF
 refine Lo hF ?_; clear hF; intro a hF
 refine Lo hF ?_; clear hF; intro a hF
 refine Lo hF ?_; clear hF; intro a hF
 refine Lo hF ?_; clear hF; intro a hF
 refine Lo hF ?_; clear hF; intro a hF
 refine Lo hF ?_; clear hF; intro a hF
 refine Lo hF ?_; clear hF; intro a hF
 refine Vp hF (.bool false) ?_; clear hF; intro a hF
 refine L_nil ?_
 refine hK8 _ _ ?_
 refine cond_f hF (by kernel_rfl) (by kernel_rfl) ?_
 refine wp_skip ?_
 refine hK7 _ _ ?_
 refine wp_seq_k fun K9 hK9 => ?_
 refine wp_region_lit ?_
 refine Vp hF (.int .i64 0) ?_; clear hF; intro a hF
 refine L_nil ?_
 refine hK9 _ _ ?_
 refine wp_seq_k fun K10 hK10 => ?_
 refine wp_seq_k fun K11 hK11 => ?_
 refine wp_region_lit ?_
 refine Vp hF (.slice (subP p cap k 1) 2 (cap - k)) ?_; clear hF; intro a hF
 refine Vp hF (.int .i64 ((2 : Int))) ?_; clear hF; intro a hF
 refine Vp hF (.int .i64 0) ?_; clear hF; intro a hF
 refine L_nil ?_
 refine hK11 _ _ ?_
 refine wp_block ?_
 have hsg := seg_len hn
 refine loopX (τ := Nat) (fun (i : Nat) a Wx => (i ≤ 2) ∧ Fr 77 a [(4, .int .i64 0), (7, .int .i64 ((numB (List.take i (seg l k 2)) : Int))), (64, .slice (subP p cap k 1) 2 (cap - k)), (65, .int .i64 ((2 : Int))), (66, .int .i64 ((i : Int)))] ∧ Own W0 noX (.blk c (.cells #[.slice p l.length cap, .int .i64 (((k + 2 : Nat) : Int)), .int .i64 ((nE none))] 52 (0, 0)) :: L) Wx) (fun (i : Nat) => 2 - i) (0) ⟨Nat.zero_le _, ?_, ?_⟩ ?_
 · exact hF.restrict ⟨(by kernel_rfl), (congrArg some (by first | rfl | exact congrArg (Value.int _) (by omega) | simp)), (by kernel_rfl), (by kernel_rfl), (congrArg some (by first | rfl | exact congrArg (Value.int _) (by omega) | simp)), trivial⟩
 · exact hO.sub (.cons_cons _ (List.Sublist.refl _))
 clear hF hO; rintro i a Wl1 ⟨hI, hF, hO⟩ KhK_1 hK_1
 try dsimp only at hI
 refine wp_seq_k fun K12 hK12 => ?_
 refine wp_region_lit ?_
 refine Vp hF (.bool (decide ((i : Int) < (2 : Int)))) ?_; clear hF; intro a hF
 refine L_nil ?_
 refine hK12 _ _ ?_
 refine wp_seq_k fun K13 hK13 => ?_
 by_cases q1 : (i : Int) < (2 : Int)
 ·
  replace hF := hF.know (d := 67) (v' := .bool true) (by kernel_rfl) (congrArg Value.bool (decide_eq_true q1))
  refine cond_t hF (by kernel_rfl) (by kernel_rfl) ?_
  refine wp_skip ?_
  refine hK13 _ _ ?_
  refine wp_seq_k fun K14 hK14 => ?_
  refine wp_block ?_
  refine wp_seq_k fun K15 hK15 => ?_
  refine wp_region_lit ?_
  refine Vr hF (.pointer (some ⟨(ab (subP p cap k 1)), ao (subP p cap k 1) + i * 1, none⟩)) (x_idxAddrS (p := subP p cap k 1) (len := 2) (cap := cap - k) (elem := 5) (kd := .i64) (k := 1) (i := (i : Int)) rfl (by kernel_rfl) (by kernel_rfl) (by kernel_rfl) (by kernel_rfl) (by omega) (by omega) (SlAt.ne (k := 1) (SlAt.dropL (k := 1) (SlAt.takeL (k := 1) (hl.own hO) (fun _ => rfl) (k + 2)) (fun _ => rfl) cap k (by simp only [List.length_take]; omega)) (fun _ => rfl) (by decide) (by (first | omega | (simp only [List.length_set, List.length_take, List.length_drop, List.length_append, List.length_cons, List.length_nil]; done) | (simp only [List.length_set, List.length_take, List.length_drop, List.length_append, List.length_cons, List.length_nil]; omega) | (simp only [List.length_set, List.length_take, List.length_drop, List.length_append, List.length_cons, List.length_nil] at *; omega)) : i < (seg l k 2).length))) ?_; clear hF; intro a hF
  refine Vr hF (.int .u8 (((nth (seg l k 2) i).toNat : Int))) (x_load (p := .pointer (some ⟨(ab (subP p cap k 1)), ao (subP p cap k 1) + i * 1, none⟩)) rfl (by kernel_rfl) (run_loadEl1 (by kernel_rfl) (SlAt.dropL (k := 1) (SlAt.takeL (k := 1) (hl.own hO) (fun _ => rfl) (k + 2)) (fun _ => rfl) cap k (by simp only [List.length_take]; omega)) (fun _ => rfl) (by (first | omega | (simp only [List.length_set, List.length_take, List.length_drop, List.length_append, List.length_cons, List.length_nil]; done) | (simp only [List.length_set, List.length_take, List.length_drop, List.length_append, List.length_cons, List.length_nil]; omega) | (simp only [List.length_set, List.length_take, List.length_drop, List.length_append, List.length_cons, List.length_nil] at *; omega))) rfl)) ?_; clear hF; intro a hF
  refine Vp hF (.int .u8 (((nth (seg l k 2) i).toNat : Int))) ?_; clear hF; intro a hF
  refine L_nil ?_
  refine hK15 _ _ ?_
  refine wp_region_lit ?_
  refine Vp hF (.int .i64 ((numB (List.take i (seg l k 2)) : Int))) ?_; clear hF; intro a hF
  refine Vr hF (.int .i64 ((numB (List.take i (seg l k 2)) : Int) * 256)) (x_int (x := IntKind.i64.wrap ((numB (List.take i (seg l k 2)) : Int) * 256)) (i64In (by (first | omega | (have hq := UInt8.toNat_lt (nth (seg l k 2) i); have hq2 := numB_le (l := List.take i (seg l k 2)) (by simp only [List.length_take]; omega); omega))) (by (first | omega | (have hq := UInt8.toNat_lt (nth (seg l k 2) i); have hq2 := numB_le (l := List.take i (seg l k 2)) (by simp only [List.length_take]; omega); omega)))) (by kernel_rfl)) ?_; clear hF; intro a hF
  refine Vp hF (.int .u8 (((nth (seg l k 2) i).toNat : Int))) ?_; clear hF; intro a hF
  refine Vr hF (.int .i64 (((nth (seg l k 2) i).toNat : Int))) (x_int (x := IntKind.i64.wrap (((nth (seg l k 2) i).toNat : Int))) (i64In (by have := UInt8.toNat_lt (nth (seg l k 2) i); omega) (by have := UInt8.toNat_lt (nth (seg l k 2) i); omega)) (by kernel_rfl)) ?_; clear hF; intro a hF
  refine Vr hF (.int .i64 (((numB (List.take i (seg l k 2)) * 256 + (nth (seg l k 2) i).toNat : Nat) : Int))) (x_int (x := IntKind.i64.wrap ((numB (List.take i (seg l k 2)) : Int) * 256 + ((nth (seg l k 2) i).toNat : Int))) ((i64In (by (first | omega | (have hq := UInt8.toNat_lt (nth (seg l k 2) i); have hq2 := numB_le (l := List.take i (seg l k 2)) (by simp only [List.length_take]; omega); omega))) (by (first | omega | (have hq := UInt8.toNat_lt (nth (seg l k 2) i); have hq2 := numB_le (l := List.take i (seg l k 2)) (by simp only [List.length_take]; omega); omega)))).trans (by omega)) (by kernel_rfl)) ?_; clear hF; intro a hF
  refine Vp hF (.int .i64 (((numB (List.take i (seg l k 2)) * 256 + (nth (seg l k 2) i).toNat : Nat) : Int))) ?_; clear hF; intro a hF
  refine L_nil ?_
  refine block_normal ?_
  refine hK14 _ _ ?_
  refine wp_region_lit ?_
  refine Vr hF (.int .i64 ((i : Int) + 1)) (x_int (x := IntKind.i64.wrap ((i : Int) + 1)) (i64In (by omega) (by omega)) (by kernel_rfl)) ?_; clear hF; intro a hF
  refine Vp hF (.int .i64 ((i : Int) + 1)) ?_; clear hF; intro a hF
  refine L_nil ?_
  refine hK_1 (i + 1) _ _ (by first | omega | (dsimp only; omega)) ⟨by omega, ?_, ?_⟩
  · exact hF.restrict ⟨(by kernel_rfl), (congrArg some (by first | rfl | exact congrArg (Value.int _) (by omega) | exact congrArg (fun z : Nat => Value.int .i64 (z : Int)) (numB_take (by omega)).symm)), (by kernel_rfl), (by kernel_rfl), (congrArg some (by first | rfl | exact congrArg (Value.int _) (by omega) | exact congrArg (fun z : Nat => Value.int .i64 (z : Int)) (numB_take (by omega)).symm)), trivial⟩
  · exact hO.sub (.cons_cons _ (List.Sublist.refl _))
 ·
  replace hF := hF.know (d := 67) (v' := .bool false) (by kernel_rfl) (congrArg Value.bool (decide_eq_false q1))
  refine cond_f hF (by kernel_rfl) (by kernel_rfl) ?_
  refine wp_exit ?_
  refine then_exit ?_
  refine then_exit ?_
  refine inBlock_hit ?_
  refine hK10 _ _ ?_
  refine wp_seq_k fun K16 hK16 => ?_
  refine wp_region_lit ?_
  refine Vp hF (.int .i64 ((numB (List.take i (seg l k 2)) : Int))) ?_; clear hF; intro a hF
  refine Vp hF (.int .i64 ((numB (List.take i (seg l k 2)) : Int))) ?_; clear hF; intro a hF
  refine L_nil ?_
  refine hK16 _ _ ?_
  refine wp_ret ?_
  refine ret1 hF (v := .int .i64 ((numB (List.take i (seg l k 2)) : Int))) rfl (resT (by kernel_rfl)) (by refine ⟨?_, hO.sub (.cons_cons _ (List.Sublist.refl _))⟩; obtain rfl : i = 2 := (by omega); rw [List.take_of_length_le (by omega)]) .ret (.inl rfl)

set_option maxRecDepth 20000 in
theorem addr_Bytes (x : Ip) (W : World) : Ret Tryz.prog 41 #[ipV x] W fun v W' => ∃ q qc, v = .slice q (octs x).length qc ∧ Own W noX [rowL u8L 1 5 q qc (octs x)] W' := by
 have hz := size_le x
 refine enter Tryz.func41 rfl (n := 8) rfl (by kernel_rfl) (E0 := [(0, ipV x)]) (by kernel_rfl) ?_
 intro a hF; have hO := Own.start W noX
 refine wp_seq_k fun K1 hK1 => ?_
 refine wp_region_lit ?_
 refine L_new hF hO (by kernel_rfl) (by kernel_rfl) (vf := fun b => .pointer (some ⟨b, 0, none⟩)) (ob := .cells #[.bool x.six, .int .u8 ((x.b0.toNat : Int)), .int .u8 ((x.b1.toNat : Int)), .int .u8 ((x.b2.toNat : Int)), .int .u8 ((x.b3.toNat : Int)), .int .u8 ((x.b4.toNat : Int)), .int .u8 ((x.b5.toNat : Int)), .int .u8 ((x.b6.toNat : Int)), .int .u8 ((x.b7.toNat : Int)), .int .u8 ((x.b8.toNat : Int)), .int .u8 ((x.b9.toNat : Int)), .int .u8 ((x.b10.toNat : Int)), .int .u8 ((x.b11.toNat : Int)), .int .u8 ((x.b12.toNat : Int)), .int .u8 ((x.b13.toNat : Int)), .int .u8 ((x.b14.toNat : Int)), .int .u8 ((x.b15.toNat : Int))] 33) (by kernel_rfl) (by kernel_rfl) ?_
 clear hF hO; intro b1 W1 a hO hF
 replace hO := hO.reblk (cs := #[.bool x.six, .int .u8 ((x.b0.toNat : Int)), .int .u8 ((x.b1.toNat : Int)), .int .u8 ((x.b2.toNat : Int)), .int .u8 ((x.b3.toNat : Int)), .int .u8 ((x.b4.toNat : Int)), .int .u8 ((x.b5.toNat : Int)), .int .u8 ((x.b6.toNat : Int)), .int .u8 ((x.b7.toNat : Int)), .int .u8 ((x.b8.toNat : Int)), .int .u8 ((x.b9.toNat : Int)), .int .u8 ((x.b10.toNat : Int)), .int .u8 ((x.b11.toNat : Int)), .int .u8 ((x.b12.toNat : Int)), .int .u8 ((x.b13.toNat : Int)), .int .u8 ((x.b14.toNat : Int)), .int .u8 ((x.b15.toNat : Int))]) (cs' := (ipL x).toArray) (by kernel_rfl) (.head _)
 refine Vp hF (.slice none 0 0) ?_; clear hF; intro a hF
 refine L_nil ?_
 refine hK1 _ _ ?_
 refine wp_seq_k fun K2 hK2 => ?_
 refine wp_region_lit ?_
 refine Vp hF (.pointer (some ⟨b1, 1, none⟩)) ?_; clear hF; intro a hF
 refine Vr hF (ipV x) (x_load (p := .pointer (some ⟨b1, 0, none⟩)) rfl (by kernel_rfl) (run_loadA (k := 17) (by kernel_rfl) (by kernel_rfl) (hO.blk List.mem_cons_self) (by kernel_rfl) (by kernel_rfl))) ?_; clear hF; intro a hF
 refine Lc hF ((addr_size x W1).mono fun v W' h => (⟨by rw [h.1]; unfold sizeIp; split <;> rfl, h.2⟩ : v = .int .i64 (sizeIp x : Int) ∧ Own W1 noX [] W')) ?_
 clear hF; rintro _ W2 a ⟨rfl, hk⟩ hF
 replace hO := hO.call0 hk; clear hk
 refine Vr hF (.slice (some ⟨b1, 1, none⟩) ((sizeIp x : Int).toNat - 0) 16) (x_slArr (b := b1) (off := 1) (n := 16) (elem := 5) (lo := 0) (hi := (sizeIp x : Int)) rfl (by kernel_rfl) (by kernel_rfl) (by kernel_rfl) rfl ⟨.i64, (by kernel_rfl)⟩ (by omega) (by omega) (by omega) (by kernel_rfl) (by first | rfl | omega) (by first | rfl | omega)) ?_; clear hF; intro a hF
 refine Lc hF (bclone_n (some ⟨b1, 1 + 0, none⟩) 16 ((x.bytes.drop 0).take ((sizeIp x : Int).toNat - 0)) ((sizeIp x : Int).toNat - 0) (by first | rfl | exact (octs_len x).symm) W2 (SlAt.arr hO List.mem_cons_self 0 ((sizeIp x : Int).toNat - 0) (by omega)) (by show (octs x).length ≤ 1000000; rw [octs_len]; omega)) ?_
 clear hF; rintro _ W3 a ⟨q1, qc1, rfl, hk⟩ hF
 replace hO := hO.call1 hk; clear hk
 refine Vp hF (.slice q1 ((sizeIp x : Int).toNat - 0) qc1) ?_; clear hF; intro a hF
 refine L_nil ?_
 refine hK2 _ _ ?_
 refine wp_ret ?_
 refine ret1 hF (v := .slice q1 ((sizeIp x : Int).toNat - 0) qc1) rfl (resT (by kernel_rfl)) (by exact ⟨_, _, by rw [octs_len]; rfl, hO.sub (.cons_cons _ (List.nil_sublist _))⟩) .ret (.inl rfl)


set_option maxRecDepth 20000 in
theorem ref02_Bytes16 (x : Ip) (W : World) (h6 : x.six = true) : Ret Tryz.prog 42 #[ipV x] W fun v W' => ∃ b, v = .slice (some ⟨b, 1, none⟩) 16 16 ∧ Own W noX [.blk b (.cells (ipL x).toArray 33 (0, 0))] W' := by
 refine enter Tryz.func42 rfl (n := 9) rfl (by kernel_rfl) (E0 := [(0, ipV x)]) (by kernel_rfl) ?_
 intro a hF; have hO := Own.start W noX
 refine wp_seq_k fun K1 hK1 => ?_
 refine wp_region_lit ?_
 refine L_new hF hO (by kernel_rfl) (by kernel_rfl) (vf := fun b => .pointer (some ⟨b, 0, none⟩)) (ob := .cells #[.bool x.six, .int .u8 ((x.b0.toNat : Int)), .int .u8 ((x.b1.toNat : Int)), .int .u8 ((x.b2.toNat : Int)), .int .u8 ((x.b3.toNat : Int)), .int .u8 ((x.b4.toNat : Int)), .int .u8 ((x.b5.toNat : Int)), .int .u8 ((x.b6.toNat : Int)), .int .u8 ((x.b7.toNat : Int)), .int .u8 ((x.b8.toNat : Int)), .int .u8 ((x.b9.toNat : Int)), .int .u8 ((x.b10.toNat : Int)), .int .u8 ((x.b11.toNat : Int)), .int .u8 ((x.b12.toNat : Int)), .int .u8 ((x.b13.toNat : Int)), .int .u8 ((x.b14.toNat : Int)), .int .u8 ((x.b15.toNat : Int))] 33) (by kernel_rfl) (by kernel_rfl) ?_
 clear hF hO; intro b1 W1 a hO hF
 replace hO := hO.reblk (cs := #[.bool x.six, .int .u8 ((x.b0.toNat : Int)), .int .u8 ((x.b1.toNat : Int)), .int .u8 ((x.b2.toNat : Int)), .int .u8 ((x.b3.toNat : Int)), .int .u8 ((x.b4.toNat : Int)), .int .u8 ((x.b5.toNat : Int)), .int .u8 ((x.b6.toNat : Int)), .int .u8 ((x.b7.toNat : Int)), .int .u8 ((x.b8.toNat : Int)), .int .u8 ((x.b9.toNat : Int)), .int .u8 ((x.b10.toNat : Int)), .int .u8 ((x.b11.toNat : Int)), .int .u8 ((x.b12.toNat : Int)), .int .u8 ((x.b13.toNat : Int)), .int .u8 ((x.b14.toNat : Int)), .int .u8 ((x.b15.toNat : Int))]) (cs' := (ipL x).toArray) (by kernel_rfl) (.head _)
 refine Vp hF (.slice none 0 0) ?_; clear hF; intro a hF
 refine L_nil ?_
 refine hK1 _ _ ?_
 refine wp_seq_k fun K2 hK2 => ?_
 refine wp_seq_k fun K3 hK3 => ?_
 refine wp_region_lit ?_
 refine Vp hF (.pointer (some ⟨b1, 0, none⟩)) ?_; clear hF; intro a hF
 refine Vr hF (.bool x.six) (x_load (p := .pointer (some ⟨b1, 0, none⟩)) rfl (by kernel_rfl) (run_load1 (by kernel_rfl) ((hO.cell List.mem_cons_self).trans (by kernel_rfl)))) ?_; clear hF; intro a hF
 refine L_nil ?_
 refine hK3 _ _ ?_
 replace hF := hF.know (d := 4) (v' := .bool true) (by kernel_rfl) (congrArg Value.bool h6)
 refine cond_t hF (by kernel_rfl) (by kernel_rfl) ?_
 refine wp_seq_k fun K4 hK4 => ?_
 refine wp_region_lit ?_
 refine Vp hF (.pointer (some ⟨b1, 1, none⟩)) ?_; clear hF; intro a hF
 refine Vr hF (.slice (some ⟨b1, 1, none⟩) 16 16) (x_slArr (b := b1) (off := 1) (n := 16) (elem := 5) (lo := 0) (hi := 16) rfl (by kernel_rfl) (by kernel_rfl) (by kernel_rfl) rfl rfl (by omega) (by omega) (by omega) (by kernel_rfl) (by first | rfl | omega) (by first | rfl | omega)) ?_; clear hF; intro a hF
 refine Vp hF (.slice (some ⟨b1, 1, none⟩) 16 16) ?_; clear hF; intro a hF
 refine L_nil ?_
 refine hK4 _ _ ?_
 refine wp_ret ?_
 refine then_ret ?_
 refine ret1 hF (v := .slice (some ⟨b1, 1, none⟩) 16 16) rfl (resT (by kernel_rfl)) (by exact ⟨_, rfl, hO.sub (.cons_cons _ (List.nil_sublist _))⟩) .ret (.inl rfl)

set_option maxRecDepth 20000 in
theorem ref02_Bytes4 (x : Ip) (W : World) (h6 : x.six = false) : Ret Tryz.prog 42 #[ipV x] W fun v W' => ∃ b, v = .slice (some ⟨b, 1, none⟩) 4 16 ∧ Own W noX [.blk b (.cells (ipL x).toArray 33 (0, 0))] W' := by
 refine enter Tryz.func42 rfl (n := 9) rfl (by kernel_rfl) (E0 := [(0, ipV x)]) (by kernel_rfl) ?_
 intro a hF; have hO := Own.start W noX
 refine wp_seq_k fun K1 hK1 => ?_
 refine wp_region_lit ?_
 refine L_new hF hO (by kernel_rfl) (by kernel_rfl) (vf := fun b => .pointer (some ⟨b, 0, none⟩)) (ob := .cells #[.bool x.six, .int .u8 ((x.b0.toNat : Int)), .int .u8 ((x.b1.toNat : Int)), .int .u8 ((x.b2.toNat : Int)), .int .u8 ((x.b3.toNat : Int)), .int .u8 ((x.b4.toNat : Int)), .int .u8 ((x.b5.toNat : Int)), .int .u8 ((x.b6.toNat : Int)), .int .u8 ((x.b7.toNat : Int)), .int .u8 ((x.b8.toNat : Int)), .int .u8 ((x.b9.toNat : Int)), .int .u8 ((x.b10.toNat : Int)), .int .u8 ((x.b11.toNat : Int)), .int .u8 ((x.b12.toNat : Int)), .int .u8 ((x.b13.toNat : Int)), .int .u8 ((x.b14.toNat : Int)), .int .u8 ((x.b15.toNat : Int))] 33) (by kernel_rfl) (by kernel_rfl) ?_
 clear hF hO; intro b1 W1 a hO hF
 replace hO := hO.reblk (cs := #[.bool x.six, .int .u8 ((x.b0.toNat : Int)), .int .u8 ((x.b1.toNat : Int)), .int .u8 ((x.b2.toNat : Int)), .int .u8 ((x.b3.toNat : Int)), .int .u8 ((x.b4.toNat : Int)), .int .u8 ((x.b5.toNat : Int)), .int .u8 ((x.b6.toNat : Int)), .int .u8 ((x.b7.toNat : Int)), .int .u8 ((x.b8.toNat : Int)), .int .u8 ((x.b9.toNat : Int)), .int .u8 ((x.b10.toNat : Int)), .int .u8 ((x.b11.toNat : Int)), .int .u8 ((x.b12.toNat : Int)), .int .u8 ((x.b13.toNat : Int)), .int .u8 ((x.b14.toNat : Int)), .int .u8 ((x.b15.toNat : Int))]) (cs' := (ipL x).toArray) (by kernel_rfl) (.head _)
 refine Vp hF (.slice none 0 0) ?_; clear hF; intro a hF
 refine L_nil ?_
 refine hK1 _ _ ?_
 refine wp_seq_k fun K2 hK2 => ?_
 refine wp_seq_k fun K3 hK3 => ?_
 refine wp_region_lit ?_
 refine Vp hF (.pointer (some ⟨b1, 0, none⟩)) ?_; clear hF; intro a hF
 refine Vr hF (.bool x.six) (x_load (p := .pointer (some ⟨b1, 0, none⟩)) rfl (by kernel_rfl) (run_load1 (by kernel_rfl) ((hO.cell List.mem_cons_self).trans (by kernel_rfl)))) ?_; clear hF; intro a hF
 refine L_nil ?_
 refine hK3 _ _ ?_
 replace hF := hF.know (d := 4) (v' := .bool false) (by kernel_rfl) (congrArg Value.bool h6)
 refine cond_f hF (by kernel_rfl) (by kernel_rfl) ?_
 refine wp_skip ?_
 refine hK2 _ _ ?_
 refine wp_seq_k fun K4 hK4 => ?_
 refine wp_region_lit ?_
 refine Vp hF (.pointer (some ⟨b1, 1, none⟩)) ?_; clear hF; intro a hF
 refine Vr hF (.slice (some ⟨b1, 1, none⟩) 4 16) (x_slArr (b := b1) (off := 1) (n := 16) (elem := 5) (lo := 0) (hi := 4) rfl (by kernel_rfl) (by kernel_rfl) (by kernel_rfl) rfl ⟨.i64, (by kernel_rfl)⟩ (by omega) (by omega) (by omega) (by kernel_rfl) (by first | rfl | omega) (by first | rfl | omega)) ?_; clear hF; intro a hF
 refine Vp hF (.slice (some ⟨b1, 1, none⟩) 4 16) ?_; clear hF; intro a hF
 refine L_nil ?_
 refine hK4 _ _ ?_
 refine wp_ret ?_
 refine ret1 hF (v := .slice (some ⟨b1, 1, none⟩) 4 16) rfl (resT (by kernel_rfl)) (by exact ⟨_, rfl, hO.sub (.cons_cons _ (List.nil_sublist _))⟩) .ret (.inl rfl)

theorem ref02_Bytes (x : Ip) (W : World) : Ret Tryz.prog 42 #[ipV x] W fun v W' => ∃ q qc, v = .slice q (octs x).length qc ∧ Own W noX [readL u8L q (octs x)] W' := by
  have key : ∀ (n : Nat) (v : Value) (W' : World), n ≤ 16 → n = sizeIp x → (∃ b, v = .slice (some ⟨b, 1, none⟩) n 16 ∧ Own W noX [.blk b (.cells (ipL x).toArray 33 (0, 0))] W') → ∃ q qc, v = .slice q (octs x).length qc ∧ Own W noX [readL u8L q (octs x)] W' := by
    rintro n v W' hn rfl ⟨b, rfl, hO⟩
    exact ⟨_, _, by rw [octs_len], hO.arrRead (size_le x).1⟩
  cases h6 : x.six
  · exact (ref02_Bytes4 x W h6).mono fun v W' h => key 4 v W' (by omega) (by unfold sizeIp; rw [h6]; rfl) h
  · exact (ref02_Bytes16 x W h6).mono fun v W' h => key 16 v W' (by omega) (by unfold sizeIp; rw [h6]; rfl) h
set_option maxRecDepth 20000 in
theorem addr_Put (x : Ip) (W : World) : Ret Tryz.prog 43 #[ipV x] W fun v W' => ∃ q qc, v = .slice q (putIp x).length qc ∧ Own W noX [rowL u8L 1 5 q qc (putIp x)] W' := by
 have hz := size_le x
 have hzl := octs_len x
 refine enter Tryz.func43 rfl (n := 13) rfl (by kernel_rfl) (E0 := [(0, ipV x)]) (by kernel_rfl) ?_
 intro a hF; have hO := Own.start W noX
 refine wp_seq_k fun K1 hK1 => ?_
 refine wp_region_lit ?_
 refine L_new hF hO (by kernel_rfl) (by kernel_rfl) (vf := fun b => .pointer (some ⟨b, 0, none⟩)) (ob := .cells #[.bool x.six, .int .u8 ((x.b0.toNat : Int)), .int .u8 ((x.b1.toNat : Int)), .int .u8 ((x.b2.toNat : Int)), .int .u8 ((x.b3.toNat : Int)), .int .u8 ((x.b4.toNat : Int)), .int .u8 ((x.b5.toNat : Int)), .int .u8 ((x.b6.toNat : Int)), .int .u8 ((x.b7.toNat : Int)), .int .u8 ((x.b8.toNat : Int)), .int .u8 ((x.b9.toNat : Int)), .int .u8 ((x.b10.toNat : Int)), .int .u8 ((x.b11.toNat : Int)), .int .u8 ((x.b12.toNat : Int)), .int .u8 ((x.b13.toNat : Int)), .int .u8 ((x.b14.toNat : Int)), .int .u8 ((x.b15.toNat : Int))] 33) (by kernel_rfl) (by kernel_rfl) ?_
 clear hF hO; intro b1 W1 a hO hF
 replace hO := hO.reblk (cs := #[.bool x.six, .int .u8 ((x.b0.toNat : Int)), .int .u8 ((x.b1.toNat : Int)), .int .u8 ((x.b2.toNat : Int)), .int .u8 ((x.b3.toNat : Int)), .int .u8 ((x.b4.toNat : Int)), .int .u8 ((x.b5.toNat : Int)), .int .u8 ((x.b6.toNat : Int)), .int .u8 ((x.b7.toNat : Int)), .int .u8 ((x.b8.toNat : Int)), .int .u8 ((x.b9.toNat : Int)), .int .u8 ((x.b10.toNat : Int)), .int .u8 ((x.b11.toNat : Int)), .int .u8 ((x.b12.toNat : Int)), .int .u8 ((x.b13.toNat : Int)), .int .u8 ((x.b14.toNat : Int)), .int .u8 ((x.b15.toNat : Int))]) (cs' := (ipL x).toArray) (by kernel_rfl) (.head _)
 refine Vp hF (.slice none 0 0) ?_; clear hF; intro a hF
 refine L_nil ?_
 refine hK1 _ _ ?_
 refine wp_seq_k fun K2 hK2 => ?_
 refine wp_seq_k fun K3 hK3 => ?_
 refine wp_region_lit ?_
 refine Vp hF (.pointer (some ⟨b1, 0, none⟩)) ?_; clear hF; intro a hF
 refine Vr hF (.bool x.six) (x_load (p := .pointer (some ⟨b1, 0, none⟩)) rfl (by kernel_rfl) (run_load1 (by kernel_rfl) ((hO.cell List.mem_cons_self).trans (by kernel_rfl)))) ?_; clear hF; intro a hF
 refine L_nil ?_
 refine hK3 _ _ ?_
 cases q1 : (x.six : Bool)
 ·
  replace hF := hF.know (d := 4) (v' := .bool false) (by kernel_rfl) (congrArg Value.bool q1)
  refine cond_f hF (by kernel_rfl) (by kernel_rfl) ?_
  refine wp_skip ?_
  refine hK2 _ _ ?_
  refine wp_seq_k fun K4 hK4 => ?_
  refine wp_region_lit ?_
  refine L_new hF hO (by kernel_rfl) (by kernel_rfl) (vf := fun b => .slice (some ⟨b, 0, none⟩) 1 1) (ob := .cells #[.int .u8 4] 5) (by kernel_rfl) (by kernel_rfl) ?_
  clear hF hO; intro b2 W2 a hO hF
  refine Vr hF (ipV x) (x_load (p := .pointer (some ⟨b1, 0, none⟩)) rfl (by kernel_rfl) (run_loadA (k := 17) (by kernel_rfl) (by kernel_rfl) (hO.blk (List.mem_cons_of_mem _ List.mem_cons_self)) (by kernel_rfl) (by kernel_rfl))) ?_; clear hF; intro a hF
  refine Lc hF (addr_Bytes x W2) ?_
  clear hF; rintro _ W3 a ⟨q2, qc1, rfl, hk⟩ hF
  replace hO := hO.call1 hk; clear hk
  replace hO := hO.asRow (k := 1) (cap := 1) u8L ([4] : List UInt8) (.tail (.head _)) (by decide) (by kernel_rfl) (by decide) (by kernel_rfl)
  obtain ⟨p1, cap1, W4, hap, hO1, -⟩ := run_append_row (P := Tryz.prog) (ty := 46) (t := 46) (z := .int .u8 0) (k := 1) (bytes := 1) (q := q2) (ys := octs x) (cq := qc1) hO (.tail (.head _)) (by kernel_rfl) (by kernel_rfl) (by kernel_rfl) (by decide) (fun _ => rfl) (fun _ => rfl) (hO.row List.mem_cons_self) (by (try simp only [List.length_append, List.length_take, List.length_drop, List.length_cons, List.length_nil, maxLen]); omega) (by (try simp only [List.length_append, List.length_take, List.length_drop, List.length_cons, List.length_nil, maxLen]); omega)
  refine L_valW hF (by kernel_rfl) (by kernel_rfl) (x_app hap rfl (by kernel_rfl) (by kernel_rfl) rfl) (by kernel_rfl) ?_
  clear hap hF; intro a hF; replace hO := hO1; clear hO1
  refine Vp hF (.slice p1 ((([4] : List UInt8) ++ (octs x)).length) cap1) ?_; clear hF; intro a hF
  refine L_nil ?_
  refine hK4 _ _ ?_
  refine wp_ret ?_
  refine ret1 hF (v := .slice p1 ((([4] : List UInt8) ++ (octs x)).length) cap1) rfl (resT (by kernel_rfl)) (by have e6 : putIp x = ([4] : List UInt8) ++ (octs x) := (by unfold putIp; simp only [*]; rfl); rw [e6]; exact ⟨_, _, rfl, hO.sub (.cons_cons _ (List.nil_sublist _))⟩) .ret (.inl rfl)
 ·
  replace hF := hF.know (d := 4) (v' := .bool true) (by kernel_rfl) (congrArg Value.bool q1)
  refine cond_t hF (by kernel_rfl) (by kernel_rfl) ?_
  refine wp_seq_k fun K5 hK5 => ?_
  refine wp_region_lit ?_
  refine L_new hF hO (by kernel_rfl) (by kernel_rfl) (vf := fun b => .slice (some ⟨b, 0, none⟩) 1 1) (ob := .cells #[.int .u8 6] 5) (by kernel_rfl) (by kernel_rfl) ?_
  clear hF hO; intro b3 W5 a hO hF
  refine Vr hF (ipV x) (x_load (p := .pointer (some ⟨b1, 0, none⟩)) rfl (by kernel_rfl) (run_loadA (k := 17) (by kernel_rfl) (by kernel_rfl) (hO.blk (List.mem_cons_of_mem _ List.mem_cons_self)) (by kernel_rfl) (by kernel_rfl))) ?_; clear hF; intro a hF
  refine Lc hF (addr_Bytes x W5) ?_
  clear hF; rintro _ W6 a ⟨q3, qc2, rfl, hk⟩ hF
  replace hO := hO.call1 hk; clear hk
  replace hO := hO.asRow (k := 1) (cap := 1) u8L ([6] : List UInt8) (.tail (.head _)) (by decide) (by kernel_rfl) (by decide) (by kernel_rfl)
  obtain ⟨p2, cap2, W7, hap, hO1, -⟩ := run_append_row (P := Tryz.prog) (ty := 46) (t := 46) (z := .int .u8 0) (k := 1) (bytes := 1) (q := q3) (ys := octs x) (cq := qc2) hO (.tail (.head _)) (by kernel_rfl) (by kernel_rfl) (by kernel_rfl) (by decide) (fun _ => rfl) (fun _ => rfl) (hO.row List.mem_cons_self) (by (try simp only [List.length_append, List.length_take, List.length_drop, List.length_cons, List.length_nil, maxLen]); omega) (by (try simp only [List.length_append, List.length_take, List.length_drop, List.length_cons, List.length_nil, maxLen]); omega)
  refine L_valW hF (by kernel_rfl) (by kernel_rfl) (x_app hap rfl (by kernel_rfl) (by kernel_rfl) rfl) (by kernel_rfl) ?_
  clear hap hF; intro a hF; replace hO := hO1; clear hO1
  refine Vp hF (.slice p2 ((([6] : List UInt8) ++ (octs x)).length) cap2) ?_; clear hF; intro a hF
  refine L_nil ?_
  refine hK5 _ _ ?_
  refine wp_ret ?_
  refine then_ret ?_
  refine ret1 hF (v := .slice p2 ((([6] : List UInt8) ++ (octs x)).length) cap2) rfl (resT (by kernel_rfl)) (by have e6 : putIp x = ([6] : List UInt8) ++ (octs x) := (by unfold putIp; simp only [*]; rfl); rw [e6]; exact ⟨_, _, rfl, hO.sub (.cons_cons _ (List.nil_sublist _))⟩) .ret (.inl rfl)

set_option maxRecDepth 20000 in
theorem ref02_Put (x : Ip) (W : World) : Ret Tryz.prog 44 #[ipV x] W fun v W' => ∃ q qc, v = .slice q (putIp x).length qc ∧ Own W noX [rowL u8L 1 5 q qc (putIp x)] W' := by
 refine enter Tryz.func44 rfl (n := 13) rfl (by kernel_rfl) (E0 := [(0, ipV x)]) (by kernel_rfl) ?_
 intro a hF; have hO := Own.start W noX
 refine wp_seq_k fun K1 hK1 => ?_
 refine wp_region_lit ?_
 refine L_new hF hO (by kernel_rfl) (by kernel_rfl) (vf := fun b => .pointer (some ⟨b, 0, none⟩)) (ob := .cells #[.bool x.six, .int .u8 ((x.b0.toNat : Int)), .int .u8 ((x.b1.toNat : Int)), .int .u8 ((x.b2.toNat : Int)), .int .u8 ((x.b3.toNat : Int)), .int .u8 ((x.b4.toNat : Int)), .int .u8 ((x.b5.toNat : Int)), .int .u8 ((x.b6.toNat : Int)), .int .u8 ((x.b7.toNat : Int)), .int .u8 ((x.b8.toNat : Int)), .int .u8 ((x.b9.toNat : Int)), .int .u8 ((x.b10.toNat : Int)), .int .u8 ((x.b11.toNat : Int)), .int .u8 ((x.b12.toNat : Int)), .int .u8 ((x.b13.toNat : Int)), .int .u8 ((x.b14.toNat : Int)), .int .u8 ((x.b15.toNat : Int))] 33) (by kernel_rfl) (by kernel_rfl) ?_
 clear hF hO; intro b1 W1 a hO hF
 replace hO := hO.reblk (cs := #[.bool x.six, .int .u8 ((x.b0.toNat : Int)), .int .u8 ((x.b1.toNat : Int)), .int .u8 ((x.b2.toNat : Int)), .int .u8 ((x.b3.toNat : Int)), .int .u8 ((x.b4.toNat : Int)), .int .u8 ((x.b5.toNat : Int)), .int .u8 ((x.b6.toNat : Int)), .int .u8 ((x.b7.toNat : Int)), .int .u8 ((x.b8.toNat : Int)), .int .u8 ((x.b9.toNat : Int)), .int .u8 ((x.b10.toNat : Int)), .int .u8 ((x.b11.toNat : Int)), .int .u8 ((x.b12.toNat : Int)), .int .u8 ((x.b13.toNat : Int)), .int .u8 ((x.b14.toNat : Int)), .int .u8 ((x.b15.toNat : Int))]) (cs' := (ipL x).toArray) (by kernel_rfl) (.head _)
 refine Vp hF (.slice none 0 0) ?_; clear hF; intro a hF
 refine L_nil ?_
 refine hK1 _ _ ?_
 refine wp_seq_k fun K2 hK2 => ?_
 refine wp_seq_k fun K3 hK3 => ?_
 refine wp_region_lit ?_
 refine Vp hF (.pointer (some ⟨b1, 0, none⟩)) ?_; clear hF; intro a hF
 refine Vr hF (.bool x.six) (x_load (p := .pointer (some ⟨b1, 0, none⟩)) rfl (by kernel_rfl) (run_load1 (by kernel_rfl) ((hO.cell List.mem_cons_self).trans (by kernel_rfl)))) ?_; clear hF; intro a hF
 refine L_nil ?_
 refine hK3 _ _ ?_
 cases q1 : (x.six : Bool)
 ·
  replace hF := hF.know (d := 4) (v' := .bool false) (by kernel_rfl) (congrArg Value.bool q1)
  refine cond_f hF (by kernel_rfl) (by kernel_rfl) ?_
  refine wp_skip ?_
  refine hK2 _ _ ?_
  refine wp_seq_k fun K4 hK4 => ?_
  refine wp_region_lit ?_
  refine L_new hF hO (by kernel_rfl) (by kernel_rfl) (vf := fun b => .slice (some ⟨b, 0, none⟩) 1 1) (ob := .cells #[.int .u8 4] 5) (by kernel_rfl) (by kernel_rfl) ?_
  clear hF hO; intro b2 W2 a hO hF
  refine Vp hF (.pointer (some ⟨b1, 1, none⟩)) ?_; clear hF; intro a hF
  refine Vr hF (.slice (some ⟨b1, 1, none⟩) 4 16) (x_slArr (b := b1) (off := 1) (n := 16) (elem := 5) (lo := 0) (hi := 4) rfl (by kernel_rfl) (by kernel_rfl) (by kernel_rfl) rfl ⟨.i64, (by kernel_rfl)⟩ (by omega) (by omega) (by omega) (by kernel_rfl) (by first | rfl | omega) (by first | rfl | omega)) ?_; clear hF; intro a hF
  replace hO := hO.asRow (k := 1) (cap := 1) u8L ([4] : List UInt8) (.head _) (by decide) (by kernel_rfl) (by decide) (by kernel_rfl)
  obtain ⟨p1, cap1, W3, hap, hO1, -⟩ := run_append_row (P := Tryz.prog) (ty := 46) (t := 46) (z := .int .u8 0) (k := 1) (bytes := 1) (q := some ⟨b1, 1 + 0, none⟩) (ys := (x.bytes.drop 0).take 4) (cq := 16) hO (.head _) (by kernel_rfl) (by kernel_rfl) (by kernel_rfl) (by decide) (fun _ => rfl) (fun _ => rfl) (SlAt.arr hO (List.mem_cons_of_mem _ List.mem_cons_self) 0 4 (by omega)) (by (try simp only [List.length_append, List.length_take, List.length_drop, List.length_cons, List.length_nil, maxLen]); omega) (by (try simp only [List.length_append, List.length_take, List.length_drop, List.length_cons, List.length_nil, maxLen]); omega)
  refine L_valW hF (by kernel_rfl) (by kernel_rfl) (x_app hap rfl (by kernel_rfl) (by kernel_rfl) rfl) (by kernel_rfl) ?_
  clear hap hF; intro a hF; replace hO := hO1; clear hO1
  refine Vp hF (.slice p1 ((([4] : List UInt8) ++ ((x.bytes.drop 0).take 4)).length) cap1) ?_; clear hF; intro a hF
  refine L_nil ?_
  refine hK4 _ _ ?_
  refine wp_ret ?_
  refine ret1 hF (v := .slice p1 ((([4] : List UInt8) ++ ((x.bytes.drop 0).take 4)).length) cap1) rfl (resT (by kernel_rfl)) (by have e6 : putIp x = ([4] : List UInt8) ++ ((x.bytes.drop 0).take 4) := (by unfold putIp octs sizeIp; simp only [*]; rfl); rw [e6]; exact ⟨_, _, rfl, hO.sub (.cons_cons _ (List.nil_sublist _))⟩) .ret (.inl rfl)
 ·
  replace hF := hF.know (d := 4) (v' := .bool true) (by kernel_rfl) (congrArg Value.bool q1)
  refine cond_t hF (by kernel_rfl) (by kernel_rfl) ?_
  refine wp_seq_k fun K5 hK5 => ?_
  refine wp_region_lit ?_
  refine L_new hF hO (by kernel_rfl) (by kernel_rfl) (vf := fun b => .slice (some ⟨b, 0, none⟩) 1 1) (ob := .cells #[.int .u8 6] 5) (by kernel_rfl) (by kernel_rfl) ?_
  clear hF hO; intro b3 W4 a hO hF
  refine Vp hF (.pointer (some ⟨b1, 1, none⟩)) ?_; clear hF; intro a hF
  refine Vr hF (.slice (some ⟨b1, 1, none⟩) 16 16) (x_slArr (b := b1) (off := 1) (n := 16) (elem := 5) (lo := 0) (hi := 16) rfl (by kernel_rfl) (by kernel_rfl) (by kernel_rfl) rfl rfl (by omega) (by omega) (by omega) (by kernel_rfl) (by first | rfl | omega) (by first | rfl | omega)) ?_; clear hF; intro a hF
  replace hO := hO.asRow (k := 1) (cap := 1) u8L ([6] : List UInt8) (.head _) (by decide) (by kernel_rfl) (by decide) (by kernel_rfl)
  obtain ⟨p2, cap2, W5, hap, hO1, -⟩ := run_append_row (P := Tryz.prog) (ty := 46) (t := 46) (z := .int .u8 0) (k := 1) (bytes := 1) (q := some ⟨b1, 1 + 0, none⟩) (ys := (x.bytes.drop 0).take 16) (cq := 16) hO (.head _) (by kernel_rfl) (by kernel_rfl) (by kernel_rfl) (by decide) (fun _ => rfl) (fun _ => rfl) (SlAt.arr hO (List.mem_cons_of_mem _ List.mem_cons_self) 0 16 (by omega)) (by (try simp only [List.length_append, List.length_take, List.length_drop, List.length_cons, List.length_nil, maxLen]); omega) (by (try simp only [List.length_append, List.length_take, List.length_drop, List.length_cons, List.length_nil, maxLen]); omega)
  refine L_valW hF (by kernel_rfl) (by kernel_rfl) (x_app hap rfl (by kernel_rfl) (by kernel_rfl) rfl) (by kernel_rfl) ?_
  clear hap hF; intro a hF; replace hO := hO1; clear hO1
  refine Vp hF (.slice p2 ((([6] : List UInt8) ++ ((x.bytes.drop 0).take 16)).length) cap2) ?_; clear hF; intro a hF
  refine L_nil ?_
  refine hK5 _ _ ?_
  refine wp_ret ?_
  refine then_ret ?_
  refine ret1 hF (v := .slice p2 ((([6] : List UInt8) ++ ((x.bytes.drop 0).take 16)).length) cap2) rfl (resT (by kernel_rfl)) (by have e6 : putIp x = ([6] : List UInt8) ++ ((x.bytes.drop 0).take 16) := (by unfold putIp octs sizeIp; simp only [*]; rfl); rw [e6]; exact ⟨_, _, rfl, hO.sub (.cons_cons _ (List.nil_sublist _))⟩) .ret (.inl rfl)

set_option maxRecDepth 20000 in
theorem addr_From_4 (I : List Nat) (ea : Nat → Addr) (p : Option Addr) (cap : Nat) (l : List UInt8) (W : World) (hl : SlAt W p (l.flatMap u8L)) (hm : l.length = 4) : Ret Tryz.prog 46 #[.slice p l.length cap] W fun v W' => v = .tuple #[ipV (noIp.cpy 0 l), .nilIface] ∧ Own W noX [] W' := by
 refine enter Tryz.func46 rfl (n := 24) rfl (by kernel_rfl) (E0 := [(0, .slice p l.length cap)]) (by kernel_rfl) ?_
 intro a hF; have hO := Own.start W noX
 refine wp_seq_k fun K1 hK1 => ?_
 refine wp_region_lit ?_
 refine L_new hF hO (by kernel_rfl) (by kernel_rfl) (vf := fun b => .pointer (some ⟨b, 0, none⟩)) (ob := .cells #[.bool false, .int .u8 0, .int .u8 0, .int .u8 0, .int .u8 0, .int .u8 0, .int .u8 0, .int .u8 0, .int .u8 0, .int .u8 0, .int .u8 0, .int .u8 0, .int .u8 0, .int .u8 0, .int .u8 0, .int .u8 0, .int .u8 0] 33) (by kernel_rfl) (by kernel_rfl) ?_
 clear hF hO; intro b1 W1 a hO hF
 refine Vp hF (.nilIface) ?_; clear hF; intro a hF
 refine L_nil ?_
 refine hK1 _ _ ?_
 refine wp_seq_k fun K2 hK2 => ?_
 refine wp_seq_k fun K3 hK3 => ?_
 refine wp_region_lit ?_
 refine Vp hF (.slice p l.length cap) ?_; clear hF; intro a hF
 refine Vp hF (.int .i64 ((l.length : Int))) ?_; clear hF; intro a hF
 refine Vr hF (.bool false) (x_bool (x := !((l.length : Int) == 4)) (by rw [hm]; decide) (by kernel_rfl)) ?_; clear hF; intro a hF
 refine Vp hF (.bool false) ?_; clear hF; intro a hF
 refine Lo hF ?_; clear hF; intro a hF
 refine Lo hF ?_; clear hF; intro a hF
 refine Lo hF ?_; clear hF; intro a hF
 refine Vp hF (.bool false) ?_; clear hF; intro a hF
 refine L_nil ?_
 refine hK3 _ _ ?_
 refine cond_f hF (by kernel_rfl) (by kernel_rfl) ?_
 refine wp_skip ?_
 refine hK2 _ _ ?_
 refine wp_seq_k fun K4 hK4 => ?_
 refine wp_region_lit ?_
 refine Vp hF (.slice p l.length cap) ?_; clear hF; intro a hF
 refine Vp hF (.int .i64 ((l.length : Int))) ?_; clear hF; intro a hF
 refine Vr hF (.bool false) (x_bool (x := ((l.length : Int) == 16)) (by rw [hm]; decide) (by kernel_rfl)) ?_; clear hF; intro a hF
 refine Vp hF (.agg #[.bool false, .int .u8 0, .int .u8 0, .int .u8 0, .int .u8 0, .int .u8 0, .int .u8 0, .int .u8 0, .int .u8 0, .int .u8 0, .int .u8 0, .int .u8 0, .int .u8 0, .int .u8 0, .int .u8 0, .int .u8 0, .int .u8 0]) ?_; clear hF; intro a hF
 refine L_new hF hO (by kernel_rfl) (by kernel_rfl) (vf := fun b => .pointer (some ⟨b, 0, none⟩)) (ob := .cells #[.bool false, .int .u8 0, .int .u8 0, .int .u8 0, .int .u8 0, .int .u8 0, .int .u8 0, .int .u8 0, .int .u8 0, .int .u8 0, .int .u8 0, .int .u8 0, .int .u8 0, .int .u8 0, .int .u8 0, .int .u8 0, .int .u8 0] 33) (by kernel_rfl) (by kernel_rfl) ?_
 clear hF hO; intro b2 W2 a hO hF
 obtain ⟨W3, hst, hO1⟩ := run_storeAt (P := Tryz.prog) (k := 17) (T := 33) (off := 0) (v := .agg #[.bool false, .int .u8 0, .int .u8 0, .int .u8 0, .int .u8 0, .int .u8 0, .int .u8 0, .int .u8 0, .int .u8 0, .int .u8 0, .int .u8 0, .int .u8 0, .int .u8 0, .int .u8 0, .int .u8 0, .int .u8 0, .int .u8 0]) (cs := #[.bool false, .int .u8 0, .int .u8 0, .int .u8 0, .int .u8 0, .int .u8 0, .int .u8 0, .int .u8 0, .int .u8 0, .int .u8 0, .int .u8 0, .int .u8 0, .int .u8 0, .int .u8 0, .int .u8 0, .int .u8 0, .int .u8 0]) (cs' := #[.bool false, .int .u8 0, .int .u8 0, .int .u8 0, .int .u8 0, .int .u8 0, .int .u8 0, .int .u8 0, .int .u8 0, .int .u8 0, .int .u8 0, .int .u8 0, .int .u8 0, .int .u8 0, .int .u8 0, .int .u8 0, .int .u8 0]) hO (by kernel_rfl) (by kernel_rfl) (by kernel_rfl) (Nat.le_of_ble_eq_true (by kernel_rfl)) (by kernel_rfl) (.head _)
 refine L_skip hF (by kernel_rfl) (by kernel_rfl) (x_store (p := .pointer (some ⟨b2, 0, none⟩)) (v := .agg #[.bool false, .int .u8 0, .int .u8 0, .int .u8 0, .int .u8 0, .int .u8 0, .int .u8 0, .int .u8 0, .int .u8 0, .int .u8 0, .int .u8 0, .int .u8 0, .int .u8 0, .int .u8 0, .int .u8 0, .int .u8 0, .int .u8 0]) rfl (by kernel_rfl) (by kernel_rfl) hst) (by kernel_rfl) ?_
 clear hst hF; intro a hF; replace hO := hO1; clear hO1
 refine L_nil ?_
 refine hK4 _ _ ?_
 refine wp_seq_k fun K5 hK5 => ?_
 refine wp_region_lit ?_
 refine Vp hF (.pointer (some ⟨b2, 1, none⟩)) ?_; clear hF; intro a hF
 refine Vr hF (.slice (some ⟨b2, 1, none⟩) 16 16) (x_slArr (b := b2) (off := 1) (n := 16) (elem := 5) (lo := 0) (hi := 16) rfl (by kernel_rfl) (by kernel_rfl) (by kernel_rfl) rfl rfl (by omega) (by omega) (by omega) (by kernel_rfl) (by first | rfl | omega) (by first | rfl | omega)) ?_; clear hF; intro a hF
 refine Vp hF (.slice p l.length cap) ?_; clear hF; intro a hF
 replace hO := hO.reblk (cs := #[.bool false, .int .u8 0, .int .u8 0, .int .u8 0, .int .u8 0, .int .u8 0, .int .u8 0, .int .u8 0, .int .u8 0, .int .u8 0, .int .u8 0, .int .u8 0, .int .u8 0, .int .u8 0, .int .u8 0, .int .u8 0, .int .u8 0]) (cs' := (ipL noIp).toArray) (by kernel_rfl) (.head _)
 obtain ⟨W4, hst, hO1⟩ := run_copy_ip (P := Tryz.prog) (e := 5) (t := 46) (ty := 3) (j := 0) (n := 16) (c := 16) (off := 1) (cq := cap) (q := p) (A := l) hO (.head _) (by kernel_rfl) (by kernel_rfl) (hl.own hO) (by omega) (by omega) (by (try unfold arrOff); intros; (try split) <;> omega)
 refine L_valW hF (by kernel_rfl) (by kernel_rfl) (x_copy hst rfl (by kernel_rfl) (by kernel_rfl) rfl) (by kernel_rfl) ?_
 clear hst hF; intro a hF; replace hO := hO1; clear hO1
 refine L_nil ?_
 refine hK5 _ _ ?_
 refine wp_seq_k fun K6 hK6 => ?_
 refine wp_region_lit ?_
 refine Vr hF (ipV (noIp.cpy 0 l)) (x_load (p := .pointer (some ⟨b2, 0, none⟩)) rfl (by kernel_rfl) (run_loadA (k := 17) (by kernel_rfl) (by kernel_rfl) (hO.blk List.mem_cons_self) (by kernel_rfl) (by kernel_rfl))) ?_; clear hF; intro a hF
 obtain ⟨W5, hst, hO1⟩ := run_storeAt (P := Tryz.prog) (k := 17) (T := 33) (off := 0) (v := ipV (noIp.cpy 0 l)) (cs := #[.bool false, .int .u8 0, .int .u8 0, .int .u8 0, .int .u8 0, .int .u8 0, .int .u8 0, .int .u8 0, .int .u8 0, .int .u8 0, .int .u8 0, .int .u8 0, .int .u8 0, .int .u8 0, .int .u8 0, .int .u8 0, .int .u8 0]) (cs' := (ipL (noIp.cpy 0 l)).toArray) hO (by kernel_rfl) (by kernel_rfl) (by kernel_rfl) (Nat.le_of_ble_eq_true (by kernel_rfl)) (by kernel_rfl) (.tail (.head _))
 refine L_skip hF (by kernel_rfl) (by kernel_rfl) (x_store (p := .pointer (some ⟨b1, 0, none⟩)) (v := ipV (noIp.cpy 0 l)) rfl (by kernel_rfl) (by kernel_rfl) hst) (by kernel_rfl) ?_
 clear hst hF; intro a hF; replace hO := hO1; clear hO1
 refine Vp hF (.nilIface) ?_; clear hF; intro a hF
 refine L_nil ?_
 refine hK6 _ _ ?_
 refine wp_ret ?_
 refine ret2 hF (v := ipV (noIp.cpy 0 l)) (u := .nilIface) rfl (resC (ad := ⟨b1, 0, none⟩) (by kernel_rfl) (run_loadA (k := 17) (by kernel_rfl) (by kernel_rfl) (hO.blk (List.mem_cons_of_mem _ List.mem_cons_self)) (by kernel_rfl) (by kernel_rfl))) (resT (by kernel_rfl)) (by refine ⟨?_, hO.nil⟩; first | rfl | (simp [*]; done)) .ret (.inl rfl)

theorem addr_From_4_n (I : List Nat) (ea : Nat → Addr) (p : Option Addr) (cap : Nat) (l : List UInt8) (m : Nat) (he : m = l.length) (W : World) (hl : SlAt W p (l.flatMap u8L)) (hm : m = 4) : Ret Tryz.prog 46 #[.slice p m cap] W fun v W' => v = .tuple #[ipV (noIp.cpy 0 l), .nilIface] ∧ Own W noX [] W' := by
  subst he
  exact addr_From_4 I ea p cap l W hl hm
set_option maxRecDepth 20000 in
theorem addr_From_16 (I : List Nat) (ea : Nat → Addr) (p : Option Addr) (cap : Nat) (l : List UInt8) (W : World) (hl : SlAt W p (l.flatMap u8L)) (hm : l.length = 16) : Ret Tryz.prog 46 #[.slice p l.length cap] W fun v W' => v = .tuple #[ipV (sixIp.cpy 0 l), .nilIface] ∧ Own W noX [] W' := by
 refine enter Tryz.func46 rfl (n := 24) rfl (by kernel_rfl) (E0 := [(0, .slice p l.length cap)]) (by kernel_rfl) ?_
 intro a hF; have hO := Own.start W noX
 refine wp_seq_k fun K1 hK1 => ?_
 refine wp_region_lit ?_
 refine L_new hF hO (by kernel_rfl) (by kernel_rfl) (vf := fun b => .pointer (some ⟨b, 0, none⟩)) (ob := .cells #[.bool false, .int .u8 0, .int .u8 0, .int .u8 0, .int .u8 0, .int .u8 0, .int .u8 0, .int .u8 0, .int .u8 0, .int .u8 0, .int .u8 0, .int .u8 0, .int .u8 0, .int .u8 0, .int .u8 0, .int .u8 0, .int .u8 0] 33) (by kernel_rfl) (by kernel_rfl) ?_
 clear hF hO; intro b1 W1 a hO hF
 refine Vp hF (.nilIface) ?_; clear hF; intro a hF
 refine L_nil ?_
 refine hK1 _ _ ?_
 refine wp_seq_k fun K2 hK2 => ?_
 refine wp_seq_k fun K3 hK3 => ?_
 refine wp_region_lit ?_
 refine Vp hF (.slice p l.length cap) ?_; clear hF; intro a hF
 refine Vp hF (.int .i64 ((l.length : Int))) ?_; clear hF; intro a hF
 refine Vr hF (.bool true) (x_bool (x := !((l.length : Int) == 4)) (by rw [hm]; decide) (by kernel_rfl)) ?_; clear hF; intro a hF
 refine Vp hF (.bool true) ?_; clear hF; intro a hF
 refine Vp hF (.slice p l.length cap) ?_; clear hF; intro a hF
 refine Vp hF (.int .i64 ((l.length : Int))) ?_; clear hF; intro a hF
 refine Vr hF (.bool false) (x_bool (x := !((l.length : Int) == 16)) (by rw [hm]; decide) (by kernel_rfl)) ?_; clear hF; intro a hF
 refine Vp hF (.bool false) ?_; clear hF; intro a hF
 refine L_nil ?_
 refine hK3 _ _ ?_
 refine cond_f hF (by kernel_rfl) (by kernel_rfl) ?_
 refine wp_skip ?_
 refine hK2 _ _ ?_
 refine wp_seq_k fun K4 hK4 => ?_
 refine wp_region_lit ?_
 refine Vp hF (.slice p l.length cap) ?_; clear hF; intro a hF
 refine Vp hF (.int .i64 ((l.length : Int))) ?_; clear hF; intro a hF
 refine Vr hF (.bool true) (x_bool (x := ((l.length : Int) == 16)) (by rw [hm]; decide) (by kernel_rfl)) ?_; clear hF; intro a hF
 refine Vp hF (.agg #[.bool true, .int .u8 0, .int .u8 0, .int .u8 0, .int .u8 0, .int .u8 0, .int .u8 0, .int .u8 0, .int .u8 0, .int .u8 0, .int .u8 0, .int .u8 0, .int .u8 0, .int .u8 0, .int .u8 0, .int .u8 0, .int .u8 0]) ?_; clear hF; intro a hF
 refine L_new hF hO (by kernel_rfl) (by kernel_rfl) (vf := fun b => .pointer (some ⟨b, 0, none⟩)) (ob := .cells #[.bool false, .int .u8 0, .int .u8 0, .int .u8 0, .int .u8 0, .int .u8 0, .int .u8 0, .int .u8 0, .int .u8 0, .int .u8 0, .int .u8 0, .int .u8 0, .int .u8 0, .int .u8 0, .int .u8 0, .int .u8 0, .int .u8 0] 33) (by kernel_rfl) (by kernel_rfl) ?_
 clear hF hO; intro b2 W2 a hO hF
 obtain ⟨W3, hst, hO1⟩ := run_storeAt (P := Tryz.prog) (k := 17) (T := 33) (off := 0) (v := .agg #[.bool true, .int .u8 0, .int .u8 0, .int .u8 0, .int .u8 0, .int .u8 0, .int .u8 0, .int .u8 0, .int .u8 0, .int .u8 0, .int .u8 0, .int .u8 0, .int .u8 0, .int .u8 0, .int .u8 0, .int .u8 0, .int .u8 0]) (cs := #[.bool false, .int .u8 0, .int .u8 0, .int .u8 0, .int .u8 0, .int .u8 0, .int .u8 0, .int .u8 0, .int .u8 0, .int .u8 0, .int .u8 0, .int .u8 0, .int .u8 0, .int .u8 0, .int .u8 0, .int .u8 0, .int .u8 0]) (cs' := #[.bool true, .int .u8 0, .int .u8 0, .int .u8 0, .int .u8 0, .int .u8 0, .int .u8 0, .int .u8 0, .int .u8 0, .int .u8 0, .int .u8 0, .int .u8 0, .int .u8 0, .int .u8 0, .int .u8 0, .int .u8 0, .int .u8 0]) hO (by kernel_rfl) (by kernel_rfl) (by kernel_rfl) (Nat.le_of_ble_eq_true (by kernel_rfl)) (by kernel_rfl) (.head _)
 refine L_skip hF (by kernel_rfl) (by kernel_rfl) (x_store (p := .pointer (some ⟨b2, 0, none⟩)) (v := .agg #[.bool true, .int .u8 0, .int .u8 0, .int .u8 0, .int .u8 0, .int .u8 0, .int .u8 0, .int .u8 0, .int .u8 0, .int .u8 0, .int .u8 0, .int .u8 0, .int .u8 0, .int .u8 0, .int .u8 0, .int .u8 0, .int .u8 0]) rfl (by kernel_rfl) (by kernel_rfl) hst) (by kernel_rfl) ?_
 clear hst hF; intro a hF; replace hO := hO1; clear hO1
 refine L_nil ?_
 refine hK4 _ _ ?_
 refine wp_seq_k fun K5 hK5 => ?_
 refine wp_region_lit ?_
 refine Vp hF (.pointer (some ⟨b2, 1, none⟩)) ?_; clear hF; intro a hF
 refine Vr hF (.slice (some ⟨b2, 1, none⟩) 16 16) (x_slArr (b := b2) (off := 1) (n := 16) (elem := 5) (lo := 0) (hi := 16) rfl (by kernel_rfl) (by kernel_rfl) (by kernel_rfl) rfl rfl (by omega) (by omega) (by omega) (by kernel_rfl) (by first | rfl | omega) (by first | rfl | omega)) ?_; clear hF; intro a hF
 refine Vp hF (.slice p l.length cap) ?_; clear hF; intro a hF
 replace hO := hO.reblk (cs := #[.bool true, .int .u8 0, .int .u8 0, .int .u8 0, .int .u8 0, .int .u8 0, .int .u8 0, .int .u8 0, .int .u8 0, .int .u8 0, .int .u8 0, .int .u8 0, .int .u8 0, .int .u8 0, .int .u8 0, .int .u8 0, .int .u8 0]) (cs' := (ipL sixIp).toArray) (by kernel_rfl) (.head _)
 obtain ⟨W4, hst, hO1⟩ := run_copy_ip (P := Tryz.prog) (e := 5) (t := 46) (ty := 3) (j := 0) (n := 16) (c := 16) (off := 1) (cq := cap) (q := p) (A := l) hO (.head _) (by kernel_rfl) (by kernel_rfl) (hl.own hO) (by omega) (by omega) (by (try unfold arrOff); intros; (try split) <;> omega)
 refine L_valW hF (by kernel_rfl) (by kernel_rfl) (x_copy hst rfl (by kernel_rfl) (by kernel_rfl) rfl) (by kernel_rfl) ?_
 clear hst hF; intro a hF; replace hO := hO1; clear hO1
 refine L_nil ?_
 refine hK5 _ _ ?_
 refine wp_seq_k fun K6 hK6 => ?_
 refine wp_region_lit ?_
 refine Vr hF (ipV (sixIp.cpy 0 l)) (x_load (p := .pointer (some ⟨b2, 0, none⟩)) rfl (by kernel_rfl) (run_loadA (k := 17) (by kernel_rfl) (by kernel_rfl) (hO.blk List.mem_cons_self) (by kernel_rfl) (by kernel_rfl))) ?_; clear hF; intro a hF
 obtain ⟨W5, hst, hO1⟩ := run_storeAt (P := Tryz.prog) (k := 17) (T := 33) (off := 0) (v := ipV (sixIp.cpy 0 l)) (cs := #[.bool false, .int .u8 0, .int .u8 0, .int .u8 0, .int .u8 0, .int .u8 0, .int .u8 0, .int .u8 0, .int .u8 0, .int .u8 0, .int .u8 0, .int .u8 0, .int .u8 0, .int .u8 0, .int .u8 0, .int .u8 0, .int .u8 0]) (cs' := (ipL (sixIp.cpy 0 l)).toArray) hO (by kernel_rfl) (by kernel_rfl) (by kernel_rfl) (Nat.le_of_ble_eq_true (by kernel_rfl)) (by kernel_rfl) (.tail (.head _))
 refine L_skip hF (by kernel_rfl) (by kernel_rfl) (x_store (p := .pointer (some ⟨b1, 0, none⟩)) (v := ipV (sixIp.cpy 0 l)) rfl (by kernel_rfl) (by kernel_rfl) hst) (by kernel_rfl) ?_
 clear hst hF; intro a hF; replace hO := hO1; clear hO1
 refine Vp hF (.nilIface) ?_; clear hF; intro a hF
 refine L_nil ?_
 refine hK6 _ _ ?_
 refine wp_ret ?_
 refine ret2 hF (v := ipV (sixIp.cpy 0 l)) (u := .nilIface) rfl (resC (ad := ⟨b1, 0, none⟩) (by kernel_rfl) (run_loadA (k := 17) (by kernel_rfl) (by kernel_rfl) (hO.blk (List.mem_cons_of_mem _ List.mem_cons_self)) (by kernel_rfl) (by kernel_rfl))) (resT (by kernel_rfl)) (by refine ⟨?_, hO.nil⟩; first | rfl | (simp [*]; done)) .ret (.inl rfl)

theorem addr_From_16_n (I : List Nat) (ea : Nat → Addr) (p : Option Addr) (cap : Nat) (l : List UInt8) (m : Nat) (he : m = l.length) (W : World) (hl : SlAt W p (l.flatMap u8L)) (hm : m = 16) : Ret Tryz.prog 46 #[.slice p m cap] W fun v W' => v = .tuple #[ipV (sixIp.cpy 0 l), .nilIface] ∧ Own W noX [] W' := by
  subst he
  exact addr_From_16 I ea p cap l W hl hm
set_option maxRecDepth 20000 in
theorem addr_From_no (I : List Nat) (ea : Nat → Addr) (p : Option Addr) (cap : Nat) (m : Nat) (W : World) (hE : Errs I ea W) (h3 : I.contains 3 = true) (hm : m ≠ 4) (hm2 : m ≠ 16) : Ret Tryz.prog 46 #[.slice p m cap] W fun v W' => v = .tuple #[ipV noIp, errV ea 3] ∧ Own W noX [] W' := by
 refine enter Tryz.func46 rfl (n := 24) rfl (by kernel_rfl) (E0 := [(0, .slice p m cap)]) (by kernel_rfl) ?_
 intro a hF; have hO := Own.start W noX
 refine wp_seq_k fun K1 hK1 => ?_
 refine wp_region_lit ?_
 refine L_new hF hO (by kernel_rfl) (by kernel_rfl) (vf := fun b => .pointer (some ⟨b, 0, none⟩)) (ob := .cells #[.bool false, .int .u8 0, .int .u8 0, .int .u8 0, .int .u8 0, .int .u8 0, .int .u8 0, .int .u8 0, .int .u8 0, .int .u8 0, .int .u8 0, .int .u8 0, .int .u8 0, .int .u8 0, .int .u8 0, .int .u8 0, .int .u8 0] 33) (by kernel_rfl) (by kernel_rfl) ?_
 clear hF hO; intro b1 W1 a hO hF
 refine Vp hF (.nilIface) ?_; clear hF; intro a hF
 refine L_nil ?_
 refine hK1 _ _ ?_
 refine wp_seq_k fun K2 hK2 => ?_
 refine wp_seq_k fun K3 hK3 => ?_
 refine wp_region_lit ?_
 refine Vp hF (.slice p m cap) ?_; clear hF; intro a hF
 refine Vp hF (.int .i64 ((m : Int))) ?_; clear hF; intro a hF
 refine Vr hF (.bool true) (x_bool (x := !((m : Int) == 4)) (by rw [beq_eq_false_iff_ne.2 (by omega : (m : Int) ≠ 4)]; rfl) (by kernel_rfl)) ?_; clear hF; intro a hF
 refine Vp hF (.bool true) ?_; clear hF; intro a hF
 refine Vp hF (.slice p m cap) ?_; clear hF; intro a hF
 refine Vp hF (.int .i64 ((m : Int))) ?_; clear hF; intro a hF
 refine Vr hF (.bool true) (x_bool (x := !((m : Int) == 16)) (by rw [beq_eq_false_iff_ne.2 (by omega : (m : Int) ≠ 16)]; rfl) (by kernel_rfl)) ?_; clear hF; intro a hF
 refine Vp hF (.bool true) ?_; clear hF; intro a hF
 refine L_nil ?_
 refine hK3 _ _ ?_
 refine cond_t hF (by kernel_rfl) (by kernel_rfl) ?_
 refine wp_seq_k fun K4 hK4 => ?_
 refine A_start (fun Wx => Own W noX [] Wx) (by kernel_rfl) ?_
 replace hO := hO.drewN 1
 generalize hWd : ({ W1 with drawn := W1.drawn + 1 } : World) = W1_d at hO ⊢; clear hWd
 have hS := hO.sub (List.nil_sublist _)
 refine Tk 0 rfl hF (.agg #[.bool false, .int .u8 0, .int .u8 0, .int .u8 0, .int .u8 0, .int .u8 0, .int .u8 0, .int .u8 0, .int .u8 0, .int .u8 0, .int .u8 0, .int .u8 0, .int .u8 0, .int .u8 0, .int .u8 0, .int .u8 0, .int .u8 0]) (fun Wx _ => by kernel_rfl) hS ?_; clear hF; intro a hF
 refine Tk 1 rfl hF (errV ea 3) (fun Wx hO => x_load (p := .pointer (some ⟨4, 0, none⟩)) rfl (by kernel_rfl) (hE.load hO 3 4 h3 (by kernel_rfl))) hS ?_; clear hF; intro a hF
 refine A_one (i := 2) (listed' := #[true, true, true, false]) (by kernel_rfl) rfl (by kernel_rfl) ?_
 obtain ⟨W2, hst, hO1⟩ := run_storeAt (P := Tryz.prog) (k := 17) (T := 33) (off := 0) (v := .agg #[.bool false, .int .u8 0, .int .u8 0, .int .u8 0, .int .u8 0, .int .u8 0, .int .u8 0, .int .u8 0, .int .u8 0, .int .u8 0, .int .u8 0, .int .u8 0, .int .u8 0, .int .u8 0, .int .u8 0, .int .u8 0, .int .u8 0]) (cs := #[.bool false, .int .u8 0, .int .u8 0, .int .u8 0, .int .u8 0, .int .u8 0, .int .u8 0, .int .u8 0, .int .u8 0, .int .u8 0, .int .u8 0, .int .u8 0, .int .u8 0, .int .u8 0, .int .u8 0, .int .u8 0, .int .u8 0]) (cs' := #[.bool false, .int .u8 0, .int .u8 0, .int .u8 0, .int .u8 0, .int .u8 0, .int .u8 0, .int .u8 0, .int .u8 0, .int .u8 0, .int .u8 0, .int .u8 0, .int .u8 0, .int .u8 0, .int .u8 0, .int .u8 0, .int .u8 0]) hO (by kernel_rfl) (by kernel_rfl) (by kernel_rfl) (Nat.le_of_ble_eq_true (by kernel_rfl)) (by kernel_rfl) (.head _)
 refine OpK.skip hF (by kernel_rfl) (by kernel_rfl) (x_store (p := .pointer (some ⟨b1, 0, none⟩)) (v := .agg #[.bool false, .int .u8 0, .int .u8 0, .int .u8 0, .int .u8 0, .int .u8 0, .int .u8 0, .int .u8 0, .int .u8 0, .int .u8 0, .int .u8 0, .int .u8 0, .int .u8 0, .int .u8 0, .int .u8 0, .int .u8 0, .int .u8 0]) rfl (by kernel_rfl) (by kernel_rfl) hst) (by kernel_rfl) ?_
 clear hst hF; intro a hF; replace hO := hO1; clear hO1
 refine ⟨hO.sub (List.nil_sublist _), ?_⟩
 have hS := hO.sub (List.nil_sublist _)
 refine Tk 3 rfl hF (errV ea 3) (fun Wx _ => by kernel_rfl) hS ?_; clear hF; intro a hF
 refine A_done (by kernel_rfl) ?_
 refine hK4 _ _ ?_
 refine wp_ret ?_
 refine then_ret ?_
 refine ret2 hF (v := ipV noIp) (u := errV ea 3) rfl (resC (ad := ⟨b1, 0, none⟩) (by kernel_rfl) (run_loadA (k := 17) (by kernel_rfl) (by kernel_rfl) (hO.blk List.mem_cons_self) (by kernel_rfl) (by kernel_rfl))) (resT (by kernel_rfl)) (by refine ⟨?_, hO.nil⟩; first | rfl | (simp [*]; done)) .ret (.inl rfl)

set_option maxRecDepth 20000 in
theorem addr_Read_ok (W0 : World) (L : List Chunk) (I : List Nat) (ea : Nat → Addr) (c : Nat) (p : Option Addr) (cap : Nat) (l : List UInt8) (k : Nat) (e : Option Nat) (W : World) (hO : Own W0 noX (.blk c (.cells #[.slice p l.length cap, .int .i64 ((k : Int)), eV ea e] 113 (0, 0)) :: rowL u8L 1 5 p cap l :: L) W) (hk : k ≤ l.length) (hsz : l.length ≤ 1000000) (he : e.isSome = false) (hE : Errs I ea W0) (h1 : I.contains 1 = true) (h6 : I.contains 6 = true) (h3 : I.contains 3 = true) : Ret Tryz.prog 48 #[.pointer (some ⟨c, 0, none⟩)] W fun v W' => v = ipV (readIp l k).1 ∧ Own W0 noX (.blk c (.cells #[.slice p l.length cap, .int .i64 (((readIp l k).2.1 : Int)), eV ea ((readIp l k).2.2)] 113 (0, 0)) :: rowL u8L 1 5 p cap l :: L) W' := by
 refine enter Tryz.func48 rfl (n := 26) rfl (by kernel_rfl) (E0 := [(0, .pointer (some ⟨c, 0, none⟩))]) (by kernel_rfl) ?_
 intro a hF; have hO := hO
 refine wp_seq_k fun K1 hK1 => ?_
 refine wp_region_lit ?_
 refine L_new hF hO (by kernel_rfl) (by kernel_rfl) (vf := fun b => .pointer (some ⟨b, 0, none⟩)) (ob := .cells #[.bool false, .int .u8 0, .int .u8 0, .int .u8 0, .int .u8 0, .int .u8 0, .int .u8 0, .int .u8 0, .int .u8 0, .int .u8 0, .int .u8 0, .int .u8 0, .int .u8 0, .int .u8 0, .int .u8 0, .int .u8 0, .int .u8 0] 33) (by kernel_rfl) (by kernel_rfl) ?_
 clear hF hO; intro b1 W1 a hO hF
 refine L_nil ?_
 refine hK1 _ _ ?_
 refine wp_seq_k fun K2 hK2 => ?_
 refine wp_region_lit ?_
 refine Vp hF (.int .i64 0) ?_; clear hF; intro a hF
 refine L_nil ?_
 refine hK2 _ _ ?_
 refine wp_seq_k fun K3 hK3 => ?_
 refine wp_seq_k fun K4 hK4 => ?_
 refine wp_region_lit ?_
 refine Vp hF (.pointer (some ⟨c, 0, none⟩)) ?_; clear hF; intro a hF
 by_cases q1 : k + 1 ≤ l.length
 ·
  replace hO := hO.front (.tail (.tail (.head _)))
  replace hO := hO.front (.tail (.tail (.head _)))
  refine Lc hF (cur_Num1_ok W0 _ I ea c p cap l k e W1 hO (by omega) (by omega) (by assumption) (by assumption)) ?_
  clear hF; rintro _ W2 a ⟨rfl, hk⟩ hF; replace hO := hk; clear hk
  refine L_nil ?_
  refine hK4 _ _ ?_
  refine wp_block ?_
  refine wp_seq_k fun K5 hK5 => ?_
  refine wp_region_lit ?_
  refine Vp hF (.bool ((numB (seg l k 1) : Int) == 4)) ?_; clear hF; intro a hF
  refine Vp hF (.bool ((numB (seg l k 1) : Int) == 4)) ?_; clear hF; intro a hF
  refine L_nil ?_
  refine hK5 _ _ ?_
  by_cases q2 : (numB (seg l k 1) : Int) = 4
  ·
   replace hF := hF.know (d := 11) (v' := .bool true) (by kernel_rfl) (congrArg Value.bool (eqT q2))
   refine cond_t hF (by kernel_rfl) (by kernel_rfl) ?_
   refine wp_region_lit ?_
   refine Vp hF (.int .i64 4) ?_; clear hF; intro a hF
   refine L_nil ?_
   refine block_normal ?_
   refine hK3 _ _ ?_
   refine wp_seq_k fun K6 hK6 => ?_
   refine wp_region_lit ?_
   refine Vp hF (.pointer (some ⟨c, 0, none⟩)) ?_; clear hF; intro a hF
   refine Vp hF (.int .i64 4) ?_; clear hF; intro a hF
   by_cases q3 : (k + 1 : Nat) + 4 ≤ l.length
   ·
    replace hO := hO.front (.tail (.head _))
    replace hO := hO.front (.tail (.head _))
    refine Lc hF (cur_Bytes_ok W0 _ I ea c p cap l (k + 1 : Nat) none 4 W2 hO (by omega) (by omega) rfl (by assumption)) ?_
    clear hF; rintro _ W3 a ⟨q4, qc1, rfl, hk⟩ hF; replace hO := hk; clear hk
    refine Lc hF (addr_From_4_n I ea (q4) qc1 (seg l (k + 1 : Nat) 4) 4 (by first | rfl | exact (seg_len (by assumption)).symm | omega) W3 (hO.row List.mem_cons_self) (by omega)) ?_
    clear hF; rintro _ W4 a ⟨rfl, hk⟩ hF
    replace hO := hO.call0 hk; clear hk
    refine Vp hF (.tuple #[ipV (noIp.cpy 0 (seg l (k + 1 : Nat) 4)), .nilIface]) ?_; clear hF; intro a hF
    refine Vp hF (ipV (noIp.cpy 0 (seg l (k + 1 : Nat) 4))) ?_; clear hF; intro a hF
    refine Vp hF (.nilIface) ?_; clear hF; intro a hF
    refine L_new hF hO (by kernel_rfl) (by kernel_rfl) (vf := fun b => .pointer (some ⟨b, 0, none⟩)) (ob := .cells #[.bool false, .int .u8 0, .int .u8 0, .int .u8 0, .int .u8 0, .int .u8 0, .int .u8 0, .int .u8 0, .int .u8 0, .int .u8 0, .int .u8 0, .int .u8 0, .int .u8 0, .int .u8 0, .int .u8 0, .int .u8 0, .int .u8 0] 33) (by kernel_rfl) (by kernel_rfl) ?_
    clear hF hO; intro b2 W5 a hO hF
    obtain ⟨W6, hst, hO1⟩ := run_storeAt (P := Tryz.prog) (k := 17) (T := 33) (off := 0) (v := ipV (noIp.cpy 0 (seg l (k + 1 : Nat) 4))) (cs := #[.bool false, .int .u8 0, .int .u8 0, .int .u8 0, .int .u8 0, .int .u8 0, .int .u8 0, .int .u8 0, .int .u8 0, .int .u8 0, .int .u8 0, .int .u8 0, .int .u8 0, .int .u8 0, .int .u8 0, .int .u8 0, .int .u8 0]) (cs' := (ipL (noIp.cpy 0 (seg l (k + 1 : Nat) 4))).toArray) hO (by kernel_rfl) (by kernel_rfl) (by kernel_rfl) (Nat.le_of_ble_eq_true (by kernel_rfl)) (by kernel_rfl) (.head _)
    refine L_skip hF (by kernel_rfl) (by kernel_rfl) (x_store (p := .pointer (some ⟨b2, 0, none⟩)) (v := ipV (noIp.cpy 0 (seg l (k + 1 : Nat) 4))) rfl (by kernel_rfl) (by kernel_rfl) hst) (by kernel_rfl) ?_
    clear hst hF; intro a hF; replace hO := hO1; clear hO1
    refine Vp hF (.nilIface) ?_; clear hF; intro a hF
    refine L_nil ?_
    refine hK6 _ _ ?_
    refine wp_seq_k fun K7 hK7 => ?_
    refine wp_seq_k fun K8 hK8 => ?_
    refine wp_region_lit ?_
    refine Vp hF (.nilIface) ?_; clear hF; intro a hF
    refine Vp hF (.bool false) ?_; clear hF; intro a hF
    refine L_nil ?_
    refine hK8 _ _ ?_
    refine cond_f hF (by kernel_rfl) (by kernel_rfl) ?_
    refine wp_skip ?_
    refine hK7 _ _ ?_
    refine wp_seq_k fun K9 hK9 => ?_
    refine wp_region_lit ?_
    refine Vr hF (ipV (noIp.cpy 0 (seg l (k + 1 : Nat) 4))) (x_load (p := .pointer (some ⟨b2, 0, none⟩)) rfl (by kernel_rfl) (run_loadA (k := 17) (by kernel_rfl) (by kernel_rfl) (hO.blk List.mem_cons_self) (by kernel_rfl) (by kernel_rfl))) ?_; clear hF; intro a hF
    obtain ⟨W7, hst, hO1⟩ := run_storeAt (P := Tryz.prog) (k := 17) (T := 33) (off := 0) (v := ipV (noIp.cpy 0 (seg l (k + 1 : Nat) 4))) (cs := #[.bool false, .int .u8 0, .int .u8 0, .int .u8 0, .int .u8 0, .int .u8 0, .int .u8 0, .int .u8 0, .int .u8 0, .int .u8 0, .int .u8 0, .int .u8 0, .int .u8 0, .int .u8 0, .int .u8 0, .int .u8 0, .int .u8 0]) (cs' := (ipL (noIp.cpy 0 (seg l (k + 1 : Nat) 4))).toArray) hO (by kernel_rfl) (by kernel_rfl) (by kernel_rfl) (Nat.le_of_ble_eq_true (by kernel_rfl)) (by kernel_rfl) (.tail (.tail (.tail (.tail (.head _)))))
    refine L_skip hF (by kernel_rfl) (by kernel_rfl) (x_store (p := .pointer (some ⟨b1, 0, none⟩)) (v := ipV (noIp.cpy 0 (seg l (k + 1 : Nat) 4))) rfl (by kernel_rfl) (by kernel_rfl) hst) (by kernel_rfl) ?_
    clear hst hF; intro a hF; replace hO := hO1; clear hO1
    refine L_nil ?_
    refine hK9 _ _ ?_
    refine wp_ret ?_
    replace hO := hO.front (.tail (.tail (.tail (.head _))))
    replace hO := hO.front (.tail (.tail (.tail (.head _))))
    refine ret1 hF (v := ipV (noIp.cpy 0 (seg l (k + 1 : Nat) 4))) rfl (resC (ad := ⟨b1, 0, none⟩) (by kernel_rfl) (run_loadA (k := 17) (by kernel_rfl) (by kernel_rfl) (hO.blk (List.mem_cons_of_mem _ (List.mem_cons_of_mem _ (List.mem_cons_of_mem _ (List.mem_cons_of_mem _ List.mem_cons_self))))) (by kernel_rfl) (by kernel_rfl))) (by have hr : readIp l k = ((noIp.cpy 0 (seg l (k + 1 : Nat) 4)), ((k + 1 : Nat) + 4 : Nat), none) := (by first | exact readIp_short (by assumption) | exact readIp_kind (by assumption) (by assumption) (by assumption) | exact readIp_4s (by assumption) (by assumption) (by assumption) | exact readIp_4 (by assumption) (by assumption) (by assumption) | exact readIp_6s (by assumption) (by assumption) (by assumption) | exact readIp_6 (by assumption) (by assumption) (by assumption) | (exfalso; omega)); rw [hr]; exact ⟨rfl, hO.sub (.cons_cons _ (.cons_cons _ (.cons _ (.cons _ (.cons _ (List.Sublist.refl _))))))⟩) .ret (.inl rfl)
   ·
    replace hO := hO.front (.tail (.head _))
    replace hO := hO.front (.tail (.head _))
    refine Lc hF (cur_Bytes_short W0 _ I ea c p cap l (k + 1 : Nat) none 4 W2 hO (by omega) (by omega) rfl (by assumption) hE h1) ?_
    clear hF; rintro _ W8 a ⟨rfl, hk⟩ hF; replace hO := hk; clear hk
    refine Lc hF (addr_From_no I ea none 0 0 W8 (hE.own hO) h3 (by omega) (by omega)) ?_
    clear hF; rintro _ W9 a ⟨rfl, hk⟩ hF
    replace hO := hO.call0 hk; clear hk
    refine Vp hF (.tuple #[ipV noIp, errV ea 3]) ?_; clear hF; intro a hF
    refine Vp hF (ipV noIp) ?_; clear hF; intro a hF
    refine Vp hF (errV ea 3) ?_; clear hF; intro a hF
    refine L_new hF hO (by kernel_rfl) (by kernel_rfl) (vf := fun b => .pointer (some ⟨b, 0, none⟩)) (ob := .cells #[.bool false, .int .u8 0, .int .u8 0, .int .u8 0, .int .u8 0, .int .u8 0, .int .u8 0, .int .u8 0, .int .u8 0, .int .u8 0, .int .u8 0, .int .u8 0, .int .u8 0, .int .u8 0, .int .u8 0, .int .u8 0, .int .u8 0] 33) (by kernel_rfl) (by kernel_rfl) ?_
    clear hF hO; intro b3 W10 a hO hF
    obtain ⟨W11, hst, hO1⟩ := run_storeAt (P := Tryz.prog) (k := 17) (T := 33) (off := 0) (v := ipV noIp) (cs := #[.bool false, .int .u8 0, .int .u8 0, .int .u8 0, .int .u8 0, .int .u8 0, .int .u8 0, .int .u8 0, .int .u8 0, .int .u8 0, .int .u8 0, .int .u8 0, .int .u8 0, .int .u8 0, .int .u8 0, .int .u8 0, .int .u8 0]) (cs' := (ipL noIp).toArray) hO (by kernel_rfl) (by kernel_rfl) (by kernel_rfl) (Nat.le_of_ble_eq_true (by kernel_rfl)) (by kernel_rfl) (.head _)
    refine L_skip hF (by kernel_rfl) (by kernel_rfl) (x_store (p := .pointer (some ⟨b3, 0, none⟩)) (v := ipV noIp) rfl (by kernel_rfl) (by kernel_rfl) hst) (by kernel_rfl) ?_
    clear hst hF; intro a hF; replace hO := hO1; clear hO1
    refine Vp hF (errV ea 3) ?_; clear hF; intro a hF
    refine L_nil ?_
    refine hK6 _ _ ?_
    refine wp_seq_k fun K10 hK10 => ?_
    refine wp_seq_k fun K11 hK11 => ?_
    refine wp_region_lit ?_
    refine Vp hF (errV ea 3) ?_; clear hF; intro a hF
    refine Vp hF (.bool true) ?_; clear hF; intro a hF
    refine L_nil ?_
    refine hK11 _ _ ?_
    refine cond_t hF (by kernel_rfl) (by kernel_rfl) ?_
    refine wp_seq_k fun K12 hK12 => ?_
    refine wp_region_lit ?_
    refine Vp hF (.agg #[.bool false, .int .u8 0, .int .u8 0, .int .u8 0, .int .u8 0, .int .u8 0, .int .u8 0, .int .u8 0, .int .u8 0, .int .u8 0, .int .u8 0, .int .u8 0, .int .u8 0, .int .u8 0, .int .u8 0, .int .u8 0, .int .u8 0]) ?_; clear hF; intro a hF
    obtain ⟨W12, hst, hO1⟩ := run_storeAt (P := Tryz.prog) (k := 17) (T := 33) (off := 0) (v := .agg #[.bool false, .int .u8 0, .int .u8 0, .int .u8 0, .int .u8 0, .int .u8 0, .int .u8 0, .int .u8 0, .int .u8 0, .int .u8 0, .int .u8 0, .int .u8 0, .int .u8 0, .int .u8 0, .int .u8 0, .int .u8 0, .int .u8 0]) (cs := #[.bool false, .int .u8 0, .int .u8 0, .int .u8 0, .int .u8 0, .int .u8 0, .int .u8 0, .int .u8 0, .int .u8 0, .int .u8 0, .int .u8 0, .int .u8 0, .int .u8 0, .int .u8 0, .int .u8 0, .int .u8 0, .int .u8 0]) (cs' := #[.bool false, .int .u8 0, .int .u8 0, .int .u8 0, .int .u8 0, .int .u8 0, .int .u8 0, .int .u8 0, .int .u8 0, .int .u8 0, .int .u8 0, .int .u8 0, .int .u8 0, .int .u8 0, .int .u8 0, .int .u8 0, .int .u8 0]) hO (by kernel_rfl) (by kernel_rfl) (by kernel_rfl) (Nat.le_of_ble_eq_true (by kernel_rfl)) (by kernel_rfl) (.tail (.tail (.tail (.head _))))
    refine L_skip hF (by kernel_rfl) (by kernel_rfl) (x_store (p := .pointer (some ⟨b1, 0, none⟩)) (v := .agg #[.bool false, .int .u8 0, .int .u8 0, .int .u8 0, .int .u8 0, .int .u8 0, .int .u8 0, .int .u8 0, .int .u8 0, .int .u8 0, .int .u8 0, .int .u8 0, .int .u8 0, .int .u8 0, .int .u8 0, .int .u8 0, .int .u8 0]) rfl (by kernel_rfl) (by kernel_rfl) hst) (by kernel_rfl) ?_
    clear hst hF; intro a hF; replace hO := hO1; clear hO1
    refine L_nil ?_
    refine hK12 _ _ ?_
    refine wp_ret ?_
    refine then_ret ?_
    replace hO := hO.front (.tail (.tail (.head _)))
    replace hO := hO.front (.tail (.tail (.head _)))
    refine ret1 hF (v := ipV noIp) rfl (resC (ad := ⟨b1, 0, none⟩) (by kernel_rfl) (run_loadA (k := 17) (by kernel_rfl) (by kernel_rfl) (hO.blk (List.mem_cons_of_mem _ (List.mem_cons_of_mem _ (List.mem_cons_of_mem _ List.mem_cons_self)))) (by kernel_rfl) (by kernel_rfl))) (by have hr : readIp l k = (noIp, (k + 1 : Nat), (some 1)) := (by first | exact readIp_short (by assumption) | exact readIp_kind (by assumption) (by assumption) (by assumption) | exact readIp_4s (by assumption) (by assumption) (by assumption) | exact readIp_4 (by assumption) (by assumption) (by assumption) | exact readIp_6s (by assumption) (by assumption) (by assumption) | exact readIp_6 (by assumption) (by assumption) (by assumption) | (exfalso; omega)); rw [hr]; exact ⟨rfl, hO.sub (.cons_cons _ (.cons_cons _ (.cons _ (.cons _ (List.Sublist.refl _)))))⟩) .ret (.inl rfl)
  ·
   replace hF := hF.know (d := 11) (v' := .bool false) (by kernel_rfl) (congrArg Value.bool (eqF q2))
   refine cond_f hF (by kernel_rfl) (by kernel_rfl) ?_
   refine wp_seq_k fun K13 hK13 => ?_
   refine wp_region_lit ?_
   refine Vp hF (.bool ((numB (seg l k 1) : Int) == 6)) ?_; clear hF; intro a hF
   refine Vp hF (.bool ((numB (seg l k 1) : Int) == 6)) ?_; clear hF; intro a hF
   refine L_nil ?_
   refine hK13 _ _ ?_
   by_cases q5 : (numB (seg l k 1) : Int) = 6
   ·
    replace hF := hF.know (d := 13) (v' := .bool true) (by kernel_rfl) (congrArg Value.bool (eqT q5))
    refine cond_t hF (by kernel_rfl) (by kernel_rfl) ?_
    refine wp_region_lit ?_
    refine Vp hF (.int .i64 16) ?_; clear hF; intro a hF
    refine L_nil ?_
    refine block_normal ?_
    refine hK3 _ _ ?_
    refine wp_seq_k fun K14 hK14 => ?_
    refine wp_region_lit ?_
    refine Vp hF (.pointer (some ⟨c, 0, none⟩)) ?_; clear hF; intro a hF
    refine Vp hF (.int .i64 16) ?_; clear hF; intro a hF
    by_cases q6 : (k + 1 : Nat) + 16 ≤ l.length
    ·
     replace hO := hO.front (.tail (.head _))
     replace hO := hO.front (.tail (.head _))
     refine Lc hF (cur_Bytes_ok W0 _ I ea c p cap l (k + 1 : Nat) none 16 W2 hO (by omega) (by omega) rfl (by assumption)) ?_
     clear hF; rintro _ W13 a ⟨q7, qc2, rfl, hk⟩ hF; replace hO := hk; clear hk
     refine Lc hF (addr_From_16_n I ea (q7) qc2 (seg l (k + 1 : Nat) 16) 16 (by first | rfl | exact (seg_len (by assumption)).symm | omega) W13 (hO.row List.mem_cons_self) (by omega)) ?_
     clear hF; rintro _ W14 a ⟨rfl, hk⟩ hF
     replace hO := hO.call0 hk; clear hk
     refine Vp hF (.tuple #[ipV (sixIp.cpy 0 (seg l (k + 1 : Nat) 16)), .nilIface]) ?_; clear hF; intro a hF
     refine Vp hF (ipV (sixIp.cpy 0 (seg l (k + 1 : Nat) 16))) ?_; clear hF; intro a hF
     refine Vp hF (.nilIface) ?_; clear hF; intro a hF
     refine L_new hF hO (by kernel_rfl) (by kernel_rfl) (vf := fun b => .pointer (some ⟨b, 0, none⟩)) (ob := .cells #[.bool false, .int .u8 0, .int .u8 0, .int .u8 0, .int .u8 0, .int .u8 0, .int .u8 0, .int .u8 0, .int .u8 0, .int .u8 0, .int .u8 0, .int .u8 0, .int .u8 0, .int .u8 0, .int .u8 0, .int .u8 0, .int .u8 0] 33) (by kernel_rfl) (by kernel_rfl) ?_
     clear hF hO; intro b4 W15 a hO hF
     obtain ⟨W16, hst, hO1⟩ := run_storeAt (P := Tryz.prog) (k := 17) (T := 33) (off := 0) (v := ipV (sixIp.cpy 0 (seg l (k + 1 : Nat) 16))) (cs := #[.bool false, .int .u8 0, .int .u8 0, .int .u8 0, .int .u8 0, .int .u8 0, .int .u8 0, .int .u8 0, .int .u8 0, .int .u8 0, .int .u8 0, .int .u8 0, .int .u8 0, .int .u8 0, .int .u8 0, .int .u8 0, .int .u8 0]) (cs' := (ipL (sixIp.cpy 0 (seg l (k + 1 : Nat) 16))).toArray) hO (by kernel_rfl) (by kernel_rfl) (by kernel_rfl) (Nat.le_of_ble_eq_true (by kernel_rfl)) (by kernel_rfl) (.head _)
     refine L_skip hF (by kernel_rfl) (by kernel_rfl) (x_store (p := .pointer (some ⟨b4, 0, none⟩)) (v := ipV (sixIp.cpy 0 (seg l (k + 1 : Nat) 16))) rfl (by kernel_rfl) (by kernel_rfl) hst) (by kernel_rfl) ?_
     clear hst hF; intro a hF; replace hO := hO1; clear hO1
     refine Vp hF (.nilIface) ?_; clear hF; intro a hF
     refine L_nil ?_
     refine hK14 _ _ ?_
     refine wp_seq_k fun K15 hK15 => ?_
     refine wp_seq_k fun K16 hK16 => ?_
     refine wp_region_lit ?_
     refine Vp hF (.nilIface) ?_; clear hF; intro a hF
     refine Vp hF (.bool false) ?_; clear hF; intro a hF
     refine L_nil ?_
     refine hK16 _ _ ?_
     refine cond_f hF (by kernel_rfl) (by kernel_rfl) ?_
     refine wp_skip ?_
     refine hK15 _ _ ?_
     refine wp_seq_k fun K17 hK17 => ?_
     refine wp_region_lit ?_
     refine Vr hF (ipV (sixIp.cpy 0 (seg l (k + 1 : Nat) 16))) (x_load (p := .pointer (some ⟨b4, 0, none⟩)) rfl (by kernel_rfl) (run_loadA (k := 17) (by kernel_rfl) (by kernel_rfl) (hO.blk List.mem_cons_self) (by kernel_rfl) (by kernel_rfl))) ?_; clear hF; intro a hF
     obtain ⟨W17, hst, hO1⟩ := run_storeAt (P := Tryz.prog) (k := 17) (T := 33) (off := 0) (v := ipV (sixIp.cpy 0 (seg l (k + 1 : Nat) 16))) (cs := #[.bool false, .int .u8 0, .int .u8 0, .int .u8 0, .int .u8 0, .int .u8 0, .int .u8 0, .int .u8 0, .int .u8 0, .int .u8 0, .int .u8 0, .int .u8 0, .int .u8 0, .int .u8 0, .int .u8 0, .int .u8 0, .int .u8 0]) (cs' := (ipL (sixIp.cpy 0 (seg l (k + 1 : Nat) 16))).toArray) hO (by kernel_rfl) (by kernel_rfl) (by kernel_rfl) (Nat.le_of_ble_eq_true (by kernel_rfl)) (by kernel_rfl) (.tail (.tail (.tail (.tail (.head _)))))
     refine L_skip hF (by kernel_rfl) (by kernel_rfl) (x_store (p := .pointer (some ⟨b1, 0, none⟩)) (v := ipV (sixIp.cpy 0 (seg l (k + 1 : Nat) 16))) rfl (by kernel_rfl) (by kernel_rfl) hst) (by kernel_rfl) ?_
     clear hst hF; intro a hF; replace hO := hO1; clear hO1
     refine L_nil ?_
     refine hK17 _ _ ?_
     refine wp_ret ?_
     replace hO := hO.front (.tail (.tail (.tail (.head _))))
     replace hO := hO.front (.tail (.tail (.tail (.head _))))
     refine ret1 hF (v := ipV (sixIp.cpy 0 (seg l (k + 1 : Nat) 16))) rfl (resC (ad := ⟨b1, 0, none⟩) (by kernel_rfl) (run_loadA (k := 17) (by kernel_rfl) (by kernel_rfl) (hO.blk (List.mem_cons_of_mem _ (List.mem_cons_of_mem _ (List.mem_cons_of_mem _ (List.mem_cons_of_mem _ List.mem_cons_self))))) (by kernel_rfl) (by kernel_rfl))) (by have hr : readIp l k = ((sixIp.cpy 0 (seg l (k + 1 : Nat) 16)), ((k + 1 : Nat) + 16 : Nat), none) := (by first | exact readIp_short (by assumption) | exact readIp_kind (by assumption) (by assumption) (by assumption) | exact readIp_4s (by assumption) (by assumption) (by assumption) | exact readIp_4 (by assumption) (by assumption) (by assumption) | exact readIp_6s (by assumption) (by assumption) (by assumption) | exact readIp_6 (by assumption) (by assumption) (by assumption) | (exfalso; omega)); rw [hr]; exact ⟨rfl, hO.sub (.cons_cons _ (.cons_cons _ (.cons _ (.cons _ (.cons _ (List.Sublist.refl _))))))⟩) .ret (.inl rfl)
    ·
     replace hO := hO.front (.tail (.head _))
     replace hO := hO.front (.tail (.head _))
     refine Lc hF (cur_Bytes_short W0 _ I ea c p cap l (k + 1 : Nat) none 16 W2 hO (by omega) (by omega) rfl (by assumption) hE h1) ?_
     clear hF; rintro _ W18 a ⟨rfl, hk⟩ hF; replace hO := hk; clear hk
     refine Lc hF (addr_From_no I ea none 0 0 W18 (hE.own hO) h3 (by omega) (by omega)) ?_
     clear hF; rintro _ W19 a ⟨rfl, hk⟩ hF
     replace hO := hO.call0 hk; clear hk
     refine Vp hF (.tuple #[ipV noIp, errV ea 3]) ?_; clear hF; intro a hF
     refine Vp hF (ipV noIp) ?_; clear hF; intro a hF
     refine Vp hF (errV ea 3) ?_; clear hF; intro a hF
     refine L_new hF hO (by kernel_rfl) (by kernel_rfl) (vf := fun b => .pointer (some ⟨b, 0, none⟩)) (ob := .cells #[.bool false, .int .u8 0, .int .u8 0, .int .u8 0, .int .u8 0, .int .u8 0, .int .u8 0, .int .u8 0, .int .u8 0, .int .u8 0, .int .u8 0, .int .u8 0, .int .u8 0, .int .u8 0, .int .u8 0, .int .u8 0, .int .u8 0] 33) (by kernel_rfl) (by kernel_rfl) ?_
     clear hF hO; intro b5 W20 a hO hF
     obtain ⟨W21, hst, hO1⟩ := run_storeAt (P := Tryz.prog) (k := 17) (T := 33) (off := 0) (v := ipV noIp) (cs := #[.bool false, .int .u8 0, .int .u8 0, .int .u8 0, .int .u8 0, .int .u8 0, .int .u8 0, .int .u8 0, .int .u8 0, .int .u8 0, .int .u8 0, .int .u8 0, .int .u8 0, .int .u8 0, .int .u8 0, .int .u8 0, .int .u8 0]) (cs' := (ipL noIp).toArray) hO (by kernel_rfl) (by kernel_rfl) (by kernel_rfl) (Nat.le_of_ble_eq_true (by kernel_rfl)) (by kernel_rfl) (.head _)
     refine L_skip hF (by kernel_rfl) (by kernel_rfl) (x_store (p := .pointer (some ⟨b5, 0, none⟩)) (v := ipV noIp) rfl (by kernel_rfl) (by kernel_rfl) hst) (by kernel_rfl) ?_
     clear hst hF; intro a hF; replace hO := hO1; clear hO1
     refine Vp hF (errV ea 3) ?_; clear hF; intro a hF
     refine L_nil ?_
     refine hK14 _ _ ?_
     refine wp_seq_k fun K18 hK18 => ?_
     refine wp_seq_k fun K19 hK19 => ?_
     refine wp_region_lit ?_
     refine Vp hF (errV ea 3) ?_; clear hF; intro a hF
     refine Vp hF (.bool true) ?_; clear hF; intro a hF
     refine L_nil ?_
     refine hK19 _ _ ?_
     refine cond_t hF (by kernel_rfl) (by kernel_rfl) ?_
     refine wp_seq_k fun K20 hK20 => ?_
     refine wp_region_lit ?_
     refine Vp hF (.agg #[.bool false, .int .u8 0, .int .u8 0, .int .u8 0, .int .u8 0, .int .u8 0, .int .u8 0, .int .u8 0, .int .u8 0, .int .u8 0, .int .u8 0, .int .u8 0, .int .u8 0, .int .u8 0, .int .u8 0, .int .u8 0, .int .u8 0]) ?_; clear hF; intro a hF
     obtain ⟨W22, hst, hO1⟩ := run_storeAt (P := Tryz.prog) (k := 17) (T := 33) (off := 0) (v := .agg #[.bool false, .int .u8 0, .int .u8 0, .int .u8 0, .int .u8 0, .int .u8 0, .int .u8 0, .int .u8 0, .int .u8 0, .int .u8 0, .int .u8 0, .int .u8 0, .int .u8 0, .int .u8 0, .int .u8 0, .int .u8 0, .int .u8 0]) (cs := #[.bool false, .int .u8 0, .int .u8 0, .int .u8 0, .int .u8 0, .int .u8 0, .int .u8 0, .int .u8 0, .int .u8 0, .int .u8 0, .int .u8 0, .int .u8 0, .int .u8 0, .int .u8 0, .int .u8 0, .int .u8 0, .int .u8 0]) (cs' := #[.bool false, .int .u8 0, .int .u8 0, .int .u8 0, .int .u8 0, .int .u8 0, .int .u8 0, .int .u8 0, .int .u8 0, .int .u8 0, .int .u8 0, .int .u8 0, .int .u8 0, .int .u8 0, .int .u8 0, .int .u8 0, .int .u8 0]) hO (by kernel_rfl) (by kernel_rfl) (by kernel_rfl) (Nat.le_of_ble_eq_true (by kernel_rfl)) (by kernel_rfl) (.tail (.tail (.tail (.head _))))
     refine L_skip hF (by kernel_rfl) (by kernel_rfl) (x_store (p := .pointer (some ⟨b1, 0, none⟩)) (v := .agg #[.bool false, .int .u8 0, .int .u8 0, .int .u8 0, .int .u8 0, .int .u8 0, .int .u8 0, .int .u8 0, .int .u8 0, .int .u8 0, .int .u8 0, .int .u8 0, .int .u8 0, .int .u8 0, .int .u8 0, .int .u8 0, .int .u8 0]) rfl (by kernel_rfl) (by kernel_rfl) hst) (by kernel_rfl) ?_
     clear hst hF; intro a hF; replace hO := hO1; clear hO1
     refine L_nil ?_
     refine hK20 _ _ ?_
     refine wp_ret ?_
     refine then_ret ?_
     replace hO := hO.front (.tail (.tail (.head _)))
     replace hO := hO.front (.tail (.tail (.head _)))
     refine ret1 hF (v := ipV noIp) rfl (resC (ad := ⟨b1, 0, none⟩) (by kernel_rfl) (run_loadA (k := 17) (by kernel_rfl) (by kernel_rfl) (hO.blk (List.mem_cons_of_mem _ (List.mem_cons_of_mem _ (List.mem_cons_of_mem _ List.mem_cons_self)))) (by kernel_rfl) (by kernel_rfl))) (by have hr : readIp l k = (noIp, (k + 1 : Nat), (some 1)) := (by first | exact readIp_short (by assumption) | exact readIp_kind (by assumption) (by assumption) (by assumption) | exact readIp_4s (by assumption) (by assumption) (by assumption) | exact readIp_4 (by assumption) (by assumption) (by assumption) | exact readIp_6s (by assumption) (by assumption) (by assumption) | exact readIp_6 (by assumption) (by assumption) (by assumption) | (exfalso; omega)); rw [hr]; exact ⟨rfl, hO.sub (.cons_cons _ (.cons_cons _ (.cons _ (.cons _ (List.Sublist.refl _)))))⟩) .ret (.inl rfl)
   ·
    replace hF := hF.know (d := 13) (v' := .bool false) (by kernel_rfl) (congrArg Value.bool (eqF q5))
    refine cond_f hF (by kernel_rfl) (by kernel_rfl) ?_
    refine wp_region_lit ?_
    refine Vp hF (.pointer (some ⟨c, 0, none⟩)) ?_; clear hF; intro a hF
    refine Vr hF (errV ea 6) (x_load (p := .pointer (some ⟨7, 0, none⟩)) rfl (by kernel_rfl) (hE.load hO 6 7 h6 (by kernel_rfl))) ?_; clear hF; intro a hF
    refine Lc hF (cur_Fail_new W0 _ ea c (.slice p l.length cap) (.int .i64 (((k + 1 : Nat) : Int))) none 6 W2 hO rfl) ?_
    clear hF; rintro _ W23 a ⟨rfl, hk⟩ hF; replace hO := hk; clear hk
    refine L_nil ?_
    refine block_normal ?_
    refine hK3 _ _ ?_
    refine wp_seq_k fun K21 hK21 => ?_
    refine wp_region_lit ?_
    refine Vp hF (.pointer (some ⟨c, 0, none⟩)) ?_; clear hF; intro a hF
    refine Vp hF (.int .i64 0) ?_; clear hF; intro a hF
    replace hO := hO.front (.tail (.head _))
    replace hO := hO.front (.tail (.head _))
    refine Lc hF (cur_Bytes_err W0 _ I ea c p cap l (k + 1 : Nat) (some 6) 0 W23 hO (by omega) (by omega) rfl) ?_
    clear hF; rintro _ W24 a ⟨rfl, hk⟩ hF; replace hO := hk; clear hk
    refine Lc hF (addr_From_no I ea none 0 0 W24 (hE.own hO) h3 (by omega) (by omega)) ?_
    clear hF; rintro _ W25 a ⟨rfl, hk⟩ hF
    replace hO := hO.call0 hk; clear hk
    refine Vp hF (.tuple #[ipV noIp, errV ea 3]) ?_; clear hF; intro a hF
    refine Vp hF (ipV noIp) ?_; clear hF; intro a hF
    refine Vp hF (errV ea 3) ?_; clear hF; intro a hF
    refine L_new hF hO (by kernel_rfl) (by kernel_rfl) (vf := fun b => .pointer (some ⟨b, 0, none⟩)) (ob := .cells #[.bool false, .int .u8 0, .int .u8 0, .int .u8 0, .int .u8 0, .int .u8 0, .int .u8 0, .int .u8 0, .int .u8 0, .int .u8 0, .int .u8 0, .int .u8 0, .int .u8 0, .int .u8 0, .int .u8 0, .int .u8 0, .int .u8 0] 33) (by kernel_rfl) (by kernel_rfl) ?_
    clear hF hO; intro b6 W26 a hO hF
    obtain ⟨W27, hst, hO1⟩ := run_storeAt (P := Tryz.prog) (k := 17) (T := 33) (off := 0) (v := ipV noIp) (cs := #[.bool false, .int .u8 0, .int .u8 0, .int .u8 0, .int .u8 0, .int .u8 0, .int .u8 0, .int .u8 0, .int .u8 0, .int .u8 0, .int .u8 0, .int .u8 0, .int .u8 0, .int .u8 0, .int .u8 0, .int .u8 0, .int .u8 0]) (cs' := (ipL noIp).toArray) hO (by kernel_rfl) (by kernel_rfl) (by kernel_rfl) (Nat.le_of_ble_eq_true (by kernel_rfl)) (by kernel_rfl) (.head _)
    refine L_skip hF (by kernel_rfl) (by kernel_rfl) (x_store (p := .pointer (some ⟨b6, 0, none⟩)) (v := ipV noIp) rfl (by kernel_rfl) (by kernel_rfl) hst) (by kernel_rfl) ?_
    clear hst hF; intro a hF; replace hO := hO1; clear hO1
    refine Vp hF (errV ea 3) ?_; clear hF; intro a hF
    refine L_nil ?_
    refine hK21 _ _ ?_
    refine wp_seq_k fun K22 hK22 => ?_
    refine wp_seq_k fun K23 hK23 => ?_
    refine wp_region_lit ?_
    refine Vp hF (errV ea 3) ?_; clear hF; intro a hF
    refine Vp hF (.bool true) ?_; clear hF; intro a hF
    refine L_nil ?_
    refine hK23 _ _ ?_
    refine cond_t hF (by kernel_rfl) (by kernel_rfl) ?_
    refine wp_seq_k fun K24 hK24 => ?_
    refine wp_region_lit ?_
    refine Vp hF (.agg #[.bool false, .int .u8 0, .int .u8 0, .int .u8 0, .int .u8 0, .int .u8 0, .int .u8 0, .int .u8 0, .int .u8 0, .int .u8 0, .int .u8 0, .int .u8 0, .int .u8 0, .int .u8 0, .int .u8 0, .int .u8 0, .int .u8 0]) ?_; clear hF; intro a hF
    obtain ⟨W28, hst, hO1⟩ := run_storeAt (P := Tryz.prog) (k := 17) (T := 33) (off := 0) (v := .agg #[.bool false, .int .u8 0, .int .u8 0, .int .u8 0, .int .u8 0, .int .u8 0, .int .u8 0, .int .u8 0, .int .u8 0, .int .u8 0, .int .u8 0, .int .u8 0, .int .u8 0, .int .u8 0, .int .u8 0, .int .u8 0, .int .u8 0]) (cs := #[.bool false, .int .u8 0, .int .u8 0, .int .u8 0, .int .u8 0, .int .u8 0, .int .u8 0, .int .u8 0, .int .u8 0, .int .u8 0, .int .u8 0, .int .u8 0, .int .u8 0, .int .u8 0, .int .u8 0, .int .u8 0, .int .u8 0]) (cs' := #[.bool false, .int .u8 0, .int .u8 0, .int .u8 0, .int .u8 0, .int .u8 0, .int .u8 0, .int .u8 0, .int .u8 0, .int .u8 0, .int .u8 0, .int .u8 0, .int .u8 0, .int .u8 0, .int .u8 0, .int .u8 0, .int .u8 0]) hO (by kernel_rfl) (by kernel_rfl) (by kernel_rfl) (Nat.le_of_ble_eq_true (by kernel_rfl)) (by kernel_rfl) (.tail (.tail (.tail (.head _))))
    refine L_skip hF (by kernel_rfl) (by kernel_rfl) (x_store (p := .pointer (some ⟨b1, 0, none⟩)) (v := .agg #[.bool false, .int .u8 0, .int .u8 0, .int .u8 0, .int .u8 0, .int .u8 0, .int .u8 0, .int .u8 0, .int .u8 0, .int .u8 0, .int .u8 0, .int .u8 0, .int .u8 0, .int .u8 0, .int .u8 0, .int .u8 0, .int .u8 0]) rfl (by kernel_rfl) (by kernel_rfl) hst) (by kernel_rfl) ?_
    clear hst hF; intro a hF; replace hO := hO1; clear hO1
    refine L_nil ?_
    refine hK24 _ _ ?_
    refine wp_ret ?_
    refine then_ret ?_
    replace hO := hO.front (.tail (.tail (.head _)))
    replace hO := hO.front (.tail (.tail (.head _)))
    refine ret1 hF (v := ipV noIp) rfl (resC (ad := ⟨b1, 0, none⟩) (by kernel_rfl) (run_loadA (k := 17) (by kernel_rfl) (by kernel_rfl) (hO.blk (List.mem_cons_of_mem _ (List.mem_cons_of_mem _ (List.mem_cons_of_mem _ List.mem_cons_self)))) (by kernel_rfl) (by kernel_rfl))) (by have hr : readIp l k = (noIp, (k + 1 : Nat), (some 6)) := (by first | exact readIp_short (by assumption) | exact readIp_kind (by assumption) (by assumption) (by assumption) | exact readIp_4s (by assumption) (by assumption) (by assumption) | exact readIp_4 (by assumption) (by assumption) (by assumption) | exact readIp_6s (by assumption) (by assumption) (by assumption) | exact readIp_6 (by assumption) (by assumption) (by assumption) | (exfalso; omega)); rw [hr]; exact ⟨rfl, hO.sub (.cons_cons _ (.cons_cons _ (.cons _ (.cons _ (List.Sublist.refl _)))))⟩) .ret (.inl rfl)
 ·
  replace hO := hO.front (.tail (.tail (.head _)))
  replace hO := hO.front (.tail (.tail (.head _)))
  refine Lc hF (cur_Num1_short W0 _ I ea c p cap l k e W1 hO (by omega) (by omega) (by assumption) (by assumption) hE h1) ?_
  clear hF; rintro _ W29 a ⟨rfl, hk⟩ hF; replace hO := hk; clear hk
  refine L_nil ?_
  refine hK4 _ _ ?_
  refine wp_block ?_
  refine wp_seq_k fun K25 hK25 => ?_
  refine wp_region_lit ?_
  refine Vp hF (.bool false) ?_; clear hF; intro a hF
  refine Vp hF (.bool false) ?_; clear hF; intro a hF
  refine L_nil ?_
  refine hK25 _ _ ?_
  refine cond_f hF (by kernel_rfl) (by kernel_rfl) ?_
  refine wp_seq_k fun K26 hK26 => ?_
  refine wp_region_lit ?_
  refine Vp hF (.bool false) ?_; clear hF; intro a hF
  refine Vp hF (.bool false) ?_; clear hF; intro a hF
  refine L_nil ?_
  refine hK26 _ _ ?_
  refine cond_f hF (by kernel_rfl) (by kernel_rfl) ?_
  refine wp_region_lit ?_
  refine Vp hF (.pointer (some ⟨c, 0, none⟩)) ?_; clear hF; intro a hF
  refine Vr hF (errV ea 6) (x_load (p := .pointer (some ⟨7, 0, none⟩)) rfl (by kernel_rfl) (hE.load hO 6 7 h6 (by kernel_rfl))) ?_; clear hF; intro a hF
  refine Lc hF (cur_Fail_bad W0 _ ea c (.slice p l.length cap) (.int .i64 ((k : Int))) (some 1) 6 W29 hO rfl) ?_
  clear hF; rintro _ W30 a ⟨rfl, hk⟩ hF; replace hO := hk; clear hk
  refine L_nil ?_
  refine block_normal ?_
  refine hK3 _ _ ?_
  refine wp_seq_k fun K27 hK27 => ?_
  refine wp_region_lit ?_
  refine Vp hF (.pointer (some ⟨c, 0, none⟩)) ?_; clear hF; intro a hF
  refine Vp hF (.int .i64 0) ?_; clear hF; intro a hF
  replace hO := hO.front (.tail (.head _))
  replace hO := hO.front (.tail (.head _))
  refine Lc hF (cur_Bytes_err W0 _ I ea c p cap l k (some 1) 0 W30 hO (by omega) (by omega) rfl) ?_
  clear hF; rintro _ W31 a ⟨rfl, hk⟩ hF; replace hO := hk; clear hk
  refine Lc hF (addr_From_no I ea none 0 0 W31 (hE.own hO) h3 (by omega) (by omega)) ?_
  clear hF; rintro _ W32 a ⟨rfl, hk⟩ hF
  replace hO := hO.call0 hk; clear hk
  refine Vp hF (.tuple #[ipV noIp, errV ea 3]) ?_; clear hF; intro a hF
  refine Vp hF (ipV noIp) ?_; clear hF; intro a hF
  refine Vp hF (errV ea 3) ?_; clear hF; intro a hF
  refine L_new hF hO (by kernel_rfl) (by kernel_rfl) (vf := fun b => .pointer (some ⟨b, 0, none⟩)) (ob := .cells #[.bool false, .int .u8 0, .int .u8 0, .int .u8 0, .int .u8 0, .int .u8 0, .int .u8 0, .int .u8 0, .int .u8 0, .int .u8 0, .int .u8 0, .int .u8 0, .int .u8 0, .int .u8 0, .int .u8 0, .int .u8 0, .int .u8 0] 33) (by kernel_rfl) (by kernel_rfl) ?_
  clear hF hO; intro b7 W33 a hO hF
  obtain ⟨W34, hst, hO1⟩ := run_storeAt (P := Tryz.prog) (k := 17) (T := 33) (off := 0) (v := ipV noIp) (cs := #[.bool false, .int .u8 0, .int .u8 0, .int .u8 0, .int .u8 0, .int .u8 0, .int .u8 0, .int .u8 0, .int .u8 0, .int .u8 0, .int .u8 0, .int .u8 0, .int .u8 0, .int .u8 0, .int .u8 0, .int .u8 0, .int .u8 0]) (cs' := (ipL noIp).toArray) hO (by kernel_rfl) (by kernel_rfl) (by kernel_rfl) (Nat.le_of_ble_eq_true (by kernel_rfl)) (by kernel_rfl) (.head _)
  refine L_skip hF (by kernel_rfl) (by kernel_rfl) (x_store (p := .pointer (some ⟨b7, 0, none⟩)) (v := ipV noIp) rfl (by kernel_rfl) (by kernel_rfl) hst) (by kernel_rfl) ?_
  clear hst hF; intro a hF; replace hO := hO1; clear hO1
  refine Vp hF (errV ea 3) ?_; clear hF; intro a hF
  refine L_nil ?_
  refine hK27 _ _ ?_
  refine wp_seq_k fun K28 hK28 => ?_
  refine wp_seq_k fun K29 hK29 => ?_
  refine wp_region_lit ?_
  refine Vp hF (errV ea 3) ?_; clear hF; intro a hF
  refine Vp hF (.bool true) ?_; clear hF; intro a hF
  refine L_nil ?_
  refine hK29 _ _ ?_
  refine cond_t hF (by kernel_rfl) (by kernel_rfl) ?_
  refine wp_seq_k fun K30 hK30 => ?_
  refine wp_region_lit ?_
  refine Vp hF (.agg #[.bool false, .int .u8 0, .int .u8 0, .int .u8 0, .int .u8 0, .int .u8 0, .int .u8 0, .int .u8 0, .int .u8 0, .int .u8 0, .int .u8 0, .int .u8 0, .int .u8 0, .int .u8 0, .int .u8 0, .int .u8 0, .int .u8 0]) ?_; clear hF; intro a hF
  obtain ⟨W35, hst, hO1⟩ := run_storeAt (P := Tryz.prog) (k := 17) (T := 33) (off := 0) (v := .agg #[.bool false, .int .u8 0, .int .u8 0, .int .u8 0, .int .u8 0, .int .u8 0, .int .u8 0, .int .u8 0, .int .u8 0, .int .u8 0, .int .u8 0, .int .u8 0, .int .u8 0, .int .u8 0, .int .u8 0, .int .u8 0, .int .u8 0]) (cs := #[.bool false, .int .u8 0, .int .u8 0, .int .u8 0, .int .u8 0, .int .u8 0, .int .u8 0, .int .u8 0, .int .u8 0, .int .u8 0, .int .u8 0, .int .u8 0, .int .u8 0, .int .u8 0, .int .u8 0, .int .u8 0, .int .u8 0]) (cs' := #[.bool false, .int .u8 0, .int .u8 0, .int .u8 0, .int .u8 0, .int .u8 0, .int .u8 0, .int .u8 0, .int .u8 0, .int .u8 0, .int .u8 0, .int .u8 0, .int .u8 0, .int .u8 0, .int .u8 0, .int .u8 0, .int .u8 0]) hO (by kernel_rfl) (by kernel_rfl) (by kernel_rfl) (Nat.le_of_ble_eq_true (by kernel_rfl)) (by kernel_rfl) (.tail (.tail (.tail (.head _))))
  refine L_skip hF (by kernel_rfl) (by kernel_rfl) (x_store (p := .pointer (some ⟨b1, 0, none⟩)) (v := .agg #[.bool false, .int .u8 0, .int .u8 0, .int .u8 0, .int .u8 0, .int .u8 0, .int .u8 0, .int .u8 0, .int .u8 0, .int .u8 0, .int .u8 0, .int .u8 0, .int .u8 0, .int .u8 0, .int .u8 0, .int .u8 0, .int .u8 0]) rfl (by kernel_rfl) (by kernel_rfl) hst) (by kernel_rfl) ?_
  clear hst hF; intro a hF; replace hO := hO1; clear hO1
  refine L_nil ?_
  refine hK30 _ _ ?_
  refine wp_ret ?_
  refine then_ret ?_
  replace hO := hO.front (.tail (.tail (.head _)))
  replace hO := hO.front (.tail (.tail (.head _)))
  refine ret1 hF (v := ipV noIp) rfl (resC (ad := ⟨b1, 0, none⟩) (by kernel_rfl) (run_loadA (k := 17) (by kernel_rfl) (by kernel_rfl) (hO.blk (List.mem_cons_of_mem _ (List.mem_cons_of_mem _ (List.mem_cons_of_mem _ List.mem_cons_self)))) (by kernel_rfl) (by kernel_rfl))) (by have hr : readIp l k = (noIp, k, (some 1)) := (by first | exact readIp_short (by assumption) | exact readIp_kind (by assumption) (by assumption) (by assumption) | exact readIp_4s (by assumption) (by assumption) (by assumption) | exact readIp_4 (by assumption) (by assumption) (by assumption) | exact readIp_6s (by assumption) (by assumption) (by assumption) | exact readIp_6 (by assumption) (by assumption) (by assumption) | (exfalso; omega)); rw [hr]; exact ⟨rfl, hO.sub (.cons_cons _ (.cons_cons _ (.cons _ (.cons _ (List.Sublist.refl _)))))⟩) .ret (.inl rfl)

set_option maxRecDepth 20000 in
theorem addr_Read_err (W0 : World) (L : List Chunk) (I : List Nat) (ea : Nat → Addr) (c : Nat) (p : Option Addr) (cap : Nat) (l : List UInt8) (k : Nat) (e : Option Nat) (W : World) (hO : Own W0 noX (.blk c (.cells #[.slice p l.length cap, .int .i64 ((k : Int)), eV ea e] 113 (0, 0)) :: rowL u8L 1 5 p cap l :: L) W) (hk : k ≤ l.length) (hsz : l.length ≤ 1000000) (he : e.isSome = true) (hE : Errs I ea W0) (h1 : I.contains 1 = true) (h6 : I.contains 6 = true) (h3 : I.contains 3 = true) : Ret Tryz.prog 48 #[.pointer (some ⟨c, 0, none⟩)] W fun v W' => v = ipV noIp ∧ Own W0 noX (.blk c (.cells #[.slice p l.length cap, .int .i64 ((k : Int)), eV ea e] 113 (0, 0)) :: rowL u8L 1 5 p cap l :: L) W' := by
 refine enter Tryz.func48 rfl (n := 26) rfl (by kernel_rfl) (E0 := [(0, .pointer (some ⟨c, 0, none⟩))]) (by kernel_rfl) ?_
 intro a hF; have hO := hO
 refine wp_seq_k fun K1 hK1 => ?_
 refine wp_region_lit ?_
 refine L_new hF hO (by kernel_rfl) (by kernel_rfl) (vf := fun b => .pointer (some ⟨b, 0, none⟩)) (ob := .cells #[.bool false, .int .u8 0, .int .u8 0, .int .u8 0, .int .u8 0, .int .u8 0, .int .u8 0, .int .u8 0, .int .u8 0, .int .u8 0, .int .u8 0, .int .u8 0, .int .u8 0, .int .u8 0, .int .u8 0, .int .u8 0, .int .u8 0] 33) (by kernel_rfl) (by kernel_rfl) ?_
 clear hF hO; intro b1 W1 a hO hF
 refine L_nil ?_
 refine hK1 _ _ ?_
 refine wp_seq_k fun K2 hK2 => ?_
 refine wp_region_lit ?_
 refine Vp hF (.int .i64 0) ?_; clear hF; intro a hF
 refine L_nil ?_
 refine hK2 _ _ ?_
 refine wp_seq_k fun K3 hK3 => ?_
 refine wp_seq_k fun K4 hK4 => ?_
 refine wp_region_lit ?_
 refine Vp hF (.pointer (some ⟨c, 0, none⟩)) ?_; clear hF; intro a hF
 replace hO := hO.front (.tail (.tail (.head _)))
 replace hO := hO.front (.tail (.tail (.head _)))
 refine Lc hF (cur_Num1_err W0 _ I ea c p cap l k e W1 hO (by omega) (by omega) (by assumption)) ?_
 clear hF; rintro _ W2 a ⟨rfl, hk⟩ hF; replace hO := hk; clear hk
 refine L_nil ?_
 refine hK4 _ _ ?_
 refine wp_block ?_
 refine wp_seq_k fun K5 hK5 => ?_
 refine wp_region_lit ?_
 refine Vp hF (.bool false) ?_; clear hF; intro a hF
 refine Vp hF (.bool false) ?_; clear hF; intro a hF
 refine L_nil ?_
 refine hK5 _ _ ?_
 refine cond_f hF (by kernel_rfl) (by kernel_rfl) ?_
 refine wp_seq_k fun K6 hK6 => ?_
 refine wp_region_lit ?_
 refine Vp hF (.bool false) ?_; clear hF; intro a hF
 refine Vp hF (.bool false) ?_; clear hF; intro a hF
 refine L_nil ?_
 refine hK6 _ _ ?_
 refine cond_f hF (by kernel_rfl) (by kernel_rfl) ?_
 refine wp_region_lit ?_
 refine Vp hF (.pointer (some ⟨c, 0, none⟩)) ?_; clear hF; intro a hF
 refine Vr hF (errV ea 6) (x_load (p := .pointer (some ⟨7, 0, none⟩)) rfl (by kernel_rfl) (hE.load hO 6 7 h6 (by kernel_rfl))) ?_; clear hF; intro a hF
 refine Lc hF (cur_Fail_bad W0 _ ea c (.slice p l.length cap) (.int .i64 ((k : Int))) e 6 W2 hO (by assumption)) ?_
 clear hF; rintro _ W3 a ⟨rfl, hk⟩ hF; replace hO := hk; clear hk
 refine L_nil ?_
 refine block_normal ?_
 refine hK3 _ _ ?_
 refine wp_seq_k fun K7 hK7 => ?_
 refine wp_region_lit ?_
 refine Vp hF (.pointer (some ⟨c, 0, none⟩)) ?_; clear hF; intro a hF
 refine Vp hF (.int .i64 0) ?_; clear hF; intro a hF
 replace hO := hO.front (.tail (.head _))
 replace hO := hO.front (.tail (.head _))
 refine Lc hF (cur_Bytes_err W0 _ I ea c p cap l k e 0 W3 hO (by omega) (by omega) (by assumption)) ?_
 clear hF; rintro _ W4 a ⟨rfl, hk⟩ hF; replace hO := hk; clear hk
 refine Lc hF (addr_From_no I ea none 0 0 W4 (hE.own hO) h3 (by omega) (by omega)) ?_
 clear hF; rintro _ W5 a ⟨rfl, hk⟩ hF
 replace hO := hO.call0 hk; clear hk
 refine Vp hF (.tuple #[ipV noIp, errV ea 3]) ?_; clear hF; intro a hF
 refine Vp hF (ipV noIp) ?_; clear hF; intro a hF
 refine Vp hF (errV ea 3) ?_; clear hF; intro a hF
 refine L_new hF hO (by kernel_rfl) (by kernel_rfl) (vf := fun b => .pointer (some ⟨b, 0, none⟩)) (ob := .cells #[.bool false, .int .u8 0, .int .u8 0, .int .u8 0, .int .u8 0, .int .u8 0, .int .u8 0, .int .u8 0, .int .u8 0, .int .u8 0, .int .u8 0, .int .u8 0, .int .u8 0, .int .u8 0, .int .u8 0, .int .u8 0, .int .u8 0] 33) (by kernel_rfl) (by kernel_rfl) ?_
 clear hF hO; intro b2 W6 a hO hF
 obtain ⟨W7, hst, hO1⟩ := run_storeAt (P := Tryz.prog) (k := 17) (T := 33) (off := 0) (v := ipV noIp) (cs := #[.bool false, .int .u8 0, .int .u8 0, .int .u8 0, .int .u8 0, .int .u8 0, .int .u8 0, .int .u8 0, .int .u8 0, .int .u8 0, .int .u8 0, .int .u8 0, .int .u8 0, .int .u8 0, .int .u8 0, .int .u8 0, .int .u8 0]) (cs' := (ipL noIp).toArray) hO (by kernel_rfl) (by kernel_rfl) (by kernel_rfl) (Nat.le_of_ble_eq_true (by kernel_rfl)) (by kernel_rfl) (.head _)
 refine L_skip hF (by kernel_rfl) (by kernel_rfl) (x_store (p := .pointer (some ⟨b2, 0, none⟩)) (v := ipV noIp) rfl (by kernel_rfl) (by kernel_rfl) hst) (by kernel_rfl) ?_
 clear hst hF; intro a hF; replace hO := hO1; clear hO1
 refine Vp hF (errV ea 3) ?_; clear hF; intro a hF
 refine L_nil ?_
 refine hK7 _ _ ?_
 refine wp_seq_k fun K8 hK8 => ?_
 refine wp_seq_k fun K9 hK9 => ?_
 refine wp_region_lit ?_
 refine Vp hF (errV ea 3) ?_; clear hF; intro a hF
 refine Vp hF (.bool true) ?_; clear hF; intro a hF
 refine L_nil ?_
 refine hK9 _ _ ?_
 refine cond_t hF (by kernel_rfl) (by kernel_rfl) ?_
 refine wp_seq_k fun K10 hK10 => ?_
 refine wp_region_lit ?_
 refine Vp hF (.agg #[.bool false, .int .u8 0, .int .u8 0, .int .u8 0, .int .u8 0, .int .u8 0, .int .u8 0, .int .u8 0, .int .u8 0, .int .u8 0, .int .u8 0, .int .u8 0, .int .u8 0, .int .u8 0, .int .u8 0, .int .u8 0, .int .u8 0]) ?_; clear hF; intro a hF
 obtain ⟨W8, hst, hO1⟩ := run_storeAt (P := Tryz.prog) (k := 17) (T := 33) (off := 0) (v := .agg #[.bool false, .int .u8 0, .int .u8 0, .int .u8 0, .int .u8 0, .int .u8 0, .int .u8 0, .int .u8 0, .int .u8 0, .int .u8 0, .int .u8 0, .int .u8 0, .int .u8 0, .int .u8 0, .int .u8 0, .int .u8 0, .int .u8 0]) (cs := #[.bool false, .int .u8 0, .int .u8 0, .int .u8 0, .int .u8 0, .int .u8 0, .int .u8 0, .int .u8 0, .int .u8 0, .int .u8 0, .int .u8 0, .int .u8 0, .int .u8 0, .int .u8 0, .int .u8 0, .int .u8 0, .int .u8 0]) (cs' := #[.bool false, .int .u8 0, .int .u8 0, .int .u8 0, .int .u8 0, .int .u8 0, .int .u8 0, .int .u8 0, .int .u8 0, .int .u8 0, .int .u8 0, .int .u8 0, .int .u8 0, .int .u8 0, .int .u8 0, .int .u8 0, .int .u8 0]) hO (by kernel_rfl) (by kernel_rfl) (by kernel_rfl) (Nat.le_of_ble_eq_true (by kernel_rfl)) (by kernel_rfl) (.tail (.tail (.tail (.head _))))
 refine L_skip hF (by kernel_rfl) (by kernel_rfl) (x_store (p := .pointer (some ⟨b1, 0, none⟩)) (v := .agg #[.bool false, .int .u8 0, .int .u8 0, .int .u8 0, .int .u8 0, .int .u8 0, .int .u8 0, .int .u8 0, .int .u8 0, .int .u8 0, .int .u8 0, .int .u8 0, .int .u8 0, .int .u8 0, .int .u8 0, .int .u8 0, .int .u8 0]) rfl (by kernel_rfl) (by kernel_rfl) hst) (by kernel_rfl) ?_
 clear hst hF; intro a hF; replace hO := hO1; clear hO1
 refine L_nil ?_
 refine hK10 _ _ ?_
 refine wp_ret ?_
 refine then_ret ?_
 replace hO := hO.front (.tail (.tail (.head _)))
 replace hO := hO.front (.tail (.tail (.head _)))
 refine ret1 hF (v := ipV noIp) rfl (resC (ad := ⟨b1, 0, none⟩) (by kernel_rfl) (run_loadA (k := 17) (by kernel_rfl) (by kernel_rfl) (hO.blk (List.mem_cons_of_mem _ (List.mem_cons_of_mem _ (List.mem_cons_of_mem _ List.mem_cons_self)))) (by kernel_rfl) (by kernel_rfl))) (by refine ⟨?_, hO.sub (.cons_cons _ (.cons_cons _ (.cons _ (.cons _ (List.Sublist.refl _)))))⟩; first | rfl | (simp [*]; done)) .ret (.inl rfl)

set_option maxRecDepth 20000 in
theorem ref02_Read_ok (W0 : World) (L : List Chunk) (c : Nat) (p : Option Addr) (cap : Nat) (l : List UInt8) (k : Nat) (e : Option Nat) (W : World) (hO : Own W0 noX (.blk c (.cells #[.slice p l.length cap, .int .i64 ((k : Int)), .int .i64 ((nE e))] 52 (0, 0)) :: L) W) (hl : SlAt W0 p (l.flatMap u8L)) (hcap : l.length ≤ cap) (hk : k ≤ l.length) (hsz : l.length ≤ 1000000) (he : e.isSome = false) : Ret Tryz.prog 49 #[.pointer (some ⟨c, 0, none⟩)] W fun v W' => v = ipV (readIp l k).1 ∧ Own W0 noX (.blk c (.cells #[.slice p l.length cap, .int .i64 (((readIp l k).2.1 : Int)), .int .i64 ((nE (readIp l k).2.2))] 52 (0, 0)) :: L) W' := by
 refine enter Tryz.func49 rfl (n := 45) rfl (by kernel_rfl) (E0 := [(0, .pointer (some ⟨c, 0, none⟩))]) (by kernel_rfl) ?_
 intro a hF; have hO := hO
 refine wp_seq_k fun K1 hK1 => ?_
 refine wp_region_lit ?_
 refine L_new hF hO (by kernel_rfl) (by kernel_rfl) (vf := fun b => .pointer (some ⟨b, 0, none⟩)) (ob := .cells #[.bool false, .int .u8 0, .int .u8 0, .int .u8 0, .int .u8 0, .int .u8 0, .int .u8 0, .int .u8 0, .int .u8 0, .int .u8 0, .int .u8 0, .int .u8 0, .int .u8 0, .int .u8 0, .int .u8 0, .int .u8 0, .int .u8 0] 33) (by kernel_rfl) (by kernel_rfl) ?_
 clear hF hO; intro b1 W1 a hO hF
 refine L_nil ?_
 refine hK1 _ _ ?_
 refine wp_seq_k fun K2 hK2 => ?_
 refine wp_region_lit ?_
 refine Vp hF (.agg #[.bool false, .int .u8 0, .int .u8 0, .int .u8 0, .int .u8 0, .int .u8 0, .int .u8 0, .int .u8 0, .int .u8 0, .int .u8 0, .int .u8 0, .int .u8 0, .int .u8 0, .int .u8 0, .int .u8 0, .int .u8 0, .int .u8 0]) ?_; clear hF; intro a hF
 refine L_new hF hO (by kernel_rfl) (by kernel_rfl) (vf := fun b => .pointer (some ⟨b, 0, none⟩)) (ob := .cells #[.bool false, .int .u8 0, .int .u8 0, .int .u8 0, .int .u8 0, .int .u8 0, .int .u8 0, .int .u8 0, .int .u8 0, .int .u8 0, .int .u8 0, .int .u8 0, .int .u8 0, .int .u8 0, .int .u8 0, .int .u8 0, .int .u8 0] 33) (by kernel_rfl) (by kernel_rfl) ?_
 clear hF hO; intro b2 W2 a hO hF
 obtain ⟨W3, hst, hO1⟩ := run_storeAt (P := Tryz.prog) (k := 17) (T := 33) (off := 0) (v := .agg #[.bool false, .int .u8 0, .int .u8 0, .int .u8 0, .int .u8 0, .int .u8 0, .int .u8 0, .int .u8 0, .int .u8 0, .int .u8 0, .int .u8 0, .int .u8 0, .int .u8 0, .int .u8 0, .int .u8 0, .int .u8 0, .int .u8 0]) (cs := #[.bool false, .int .u8 0, .int .u8 0, .int .u8 0, .int .u8 0, .int .u8 0, .int .u8 0, .int .u8 0, .int .u8 0, .int .u8 0, .int .u8 0, .int .u8 0, .int .u8 0, .int .u8 0, .int .u8 0, .int .u8 0, .int .u8 0]) (cs' := #[.bool false, .int .u8 0, .int .u8 0, .int .u8 0, .int .u8 0, .int .u8 0, .int .u8 0, .int .u8 0, .int .u8 0, .int .u8 0, .int .u8 0, .int .u8 0, .int .u8 0, .int .u8 0, .int .u8 0, .int .u8 0, .int .u8 0]) hO (by kernel_rfl) (by kernel_rfl) (by kernel_rfl) (Nat.le_of_ble_eq_true (by kernel_rfl)) (by kernel_rfl) (.head _)
 refine L_skip hF (by kernel_rfl) (by kernel_rfl) (x_store (p := .pointer (some ⟨b2, 0, none⟩)) (v := .agg #[.bool false, .int .u8 0, .int .u8 0, .int .u8 0, .int .u8 0, .int .u8 0, .int .u8 0, .int .u8 0, .int .u8 0, .int .u8 0, .int .u8 0, .int .u8 0, .int .u8 0, .int .u8 0, .int .u8 0, .int .u8 0, .int .u8 0]) rfl (by kernel_rfl) (by kernel_rfl) hst) (by kernel_rfl) ?_
 clear hst hF; intro a hF; replace hO := hO1; clear hO1
 refine L_nil ?_
 refine hK2 _ _ ?_
 refine wp_seq_k fun K3 hK3 => ?_
 refine wp_region_lit ?_
 refine Vp hF (.pointer (some ⟨c, 0, none⟩)) ?_; clear hF; intro a hF
 by_cases q1 : k + 1 ≤ l.length
 ·
  replace hO := hO.front (.tail (.tail (.head _)))
  refine Lc hF (rcur_Num1_ok W0 _ c p cap l k e W3 hO hl (by omega) (by omega) (by omega) (by assumption) (by assumption)) ?_
  clear hF; rintro _ W4 a ⟨rfl, hk⟩ hF; replace hO := hk; clear hk
  refine Vp hF (.int .i64 ((numB (seg l k 1) : Int))) ?_; clear hF; intro a hF
  refine L_nil ?_
  refine hK3 _ _ ?_
  refine wp_seq_k fun K4 hK4 => ?_
  refine wp_seq_k fun K5 hK5 => ?_
  refine wp_region_lit ?_
  refine Vp hF (.int .i64 ((numB (seg l k 1) : Int))) ?_; clear hF; intro a hF
  refine Vp hF (.bool (!((numB (seg l k 1) : Int) == 4))) ?_; clear hF; intro a hF
  refine Vp hF (.bool (!((numB (seg l k 1) : Int) == 4))) ?_; clear hF; intro a hF
  by_cases q2 : (numB (seg l k 1) : Int) = 4
  ·
   replace hF := hF.know (d := 12) (v' := .bool false) (by kernel_rfl) (congrArg Value.bool (neF (not_not_intro q2)))
   refine Lo hF ?_; clear hF; intro a hF
   refine Lo hF ?_; clear hF; intro a hF
   refine Vp hF (.bool false) ?_; clear hF; intro a hF
   refine Vp hF (.bool false) ?_; clear hF; intro a hF
   refine Lo hF ?_; clear hF; intro a hF
   refine Lo hF ?_; clear hF; intro a hF
   refine Lo hF ?_; clear hF; intro a hF
   refine Lo hF ?_; clear hF; intro a hF
   refine Lo hF ?_; clear hF; intro a hF
   refine Vp hF (.bool false) ?_; clear hF; intro a hF
   refine L_nil ?_
   refine hK5 _ _ ?_
   refine cond_f hF (by kernel_rfl) (by kernel_rfl) ?_
   refine wp_skip ?_
   refine hK4 _ _ ?_
   refine wp_seq_k fun K6 hK6 => ?_
   refine wp_region_lit ?_
   refine Vp hF (.int .i64 4) ?_; clear hF; intro a hF
   refine L_nil ?_
   refine hK6 _ _ ?_
   refine wp_seq_k fun K7 hK7 => ?_
   refine wp_seq_k fun K8 hK8 => ?_
   refine wp_region_lit ?_
   refine Vp hF (.int .i64 ((numB (seg l k 1) : Int))) ?_; clear hF; intro a hF
   refine Vp hF (.bool ((numB (seg l k 1) : Int) == 6)) ?_; clear hF; intro a hF
   refine L_nil ?_
   refine hK8 _ _ ?_
   by_cases q3 : (numB (seg l k 1) : Int) = 6
   ·
    replace hF := hF.know (d := 27) (v' := .bool true) (by kernel_rfl) (congrArg Value.bool (eqT q3))
    refine cond_t hF (by kernel_rfl) (by kernel_rfl) ?_
    refine wp_region_lit ?_
    refine Vp hF (.int .i64 16) ?_; clear hF; intro a hF
    refine L_nil ?_
    refine hK7 _ _ ?_
    refine wp_seq_k fun K9 hK9 => ?_
    refine wp_region_lit ?_
    refine Vp hF (.pointer (some ⟨c, 0, none⟩)) ?_; clear hF; intro a hF
    refine Vp hF (.int .i64 16) ?_; clear hF; intro a hF
    by_cases q4 : (k + 1 : Nat) + 16 ≤ l.length
    ·
     refine Lc hF (rcur_Bytes_ok W0 _ c p cap l (k + 1 : Nat) none 16 W4 hO hl (by omega) (by omega) (by omega) rfl (by assumption)) ?_
     clear hF; rintro _ W5 a ⟨rfl, hk⟩ hF; replace hO := hk; clear hk
     refine Vp hF (.slice (subP p cap (k + 1 : Nat) 1) ((seg l (k + 1 : Nat) 16).length) (cap - (k + 1 : Nat))) ?_; clear hF; intro a hF
     refine L_nil ?_
     refine hK9 _ _ ?_
     refine wp_seq_k fun K10 hK10 => ?_
     refine wp_seq_k fun K11 hK11 => ?_
     refine wp_region_lit ?_
     refine Vp hF (.pointer (some ⟨c, 0, none⟩)) ?_; clear hF; intro a hF
     refine Vp hF (.pointer (some ⟨c, 0, none⟩)) ?_; clear hF; intro a hF
     refine Vp hF (.pointer (some ⟨c, 2, none⟩)) ?_; clear hF; intro a hF
     refine Vr hF (.int .i64 ((nE none))) (x_load (p := .pointer (some ⟨c, 2, none⟩)) rfl (by kernel_rfl) (run_load1 (by kernel_rfl) ((hO.cell List.mem_cons_self).trans (by kernel_rfl)))) ?_; clear hF; intro a hF
     refine Vr hF (.bool false) (x_bool (x := !(nE none == 0)) (nE_ne none) (by kernel_rfl)) ?_; clear hF; intro a hF
     refine L_nil ?_
     refine hK11 _ _ ?_
     refine cond_f hF (by kernel_rfl) (by kernel_rfl) ?_
     refine wp_skip ?_
     refine hK10 _ _ ?_
     refine wp_seq_k fun K12 hK12 => ?_
     refine wp_region_lit ?_
     refine Vp hF (.int .i64 ((numB (seg l k 1) : Int))) ?_; clear hF; intro a hF
     refine Vp hF (.bool ((numB (seg l k 1) : Int) == 6)) ?_; clear hF; intro a hF
     replace hF := hF.know (d := 38) (v' := .bool true) (by kernel_rfl) (congrArg Value.bool (eqT q3))
     refine Vp hF (.pointer (some ⟨b2, 0, none⟩)) ?_; clear hF; intro a hF
     obtain ⟨W6, hst, hO1⟩ := run_storeAt (P := Tryz.prog) (k := 1) (T := 4) (off := 0) (v := .bool true) (cs := #[.bool false, .int .u8 0, .int .u8 0, .int .u8 0, .int .u8 0, .int .u8 0, .int .u8 0, .int .u8 0, .int .u8 0, .int .u8 0, .int .u8 0, .int .u8 0, .int .u8 0, .int .u8 0, .int .u8 0, .int .u8 0, .int .u8 0]) (cs' := #[.bool true, .int .u8 0, .int .u8 0, .int .u8 0, .int .u8 0, .int .u8 0, .int .u8 0, .int .u8 0, .int .u8 0, .int .u8 0, .int .u8 0, .int .u8 0, .int .u8 0, .int .u8 0, .int .u8 0, .int .u8 0, .int .u8 0]) hO (by kernel_rfl) (by kernel_rfl) (by kernel_rfl) (Nat.le_of_ble_eq_true (by kernel_rfl)) (by kernel_rfl) (.tail (.head _))
     refine L_skip hF (by kernel_rfl) (by kernel_rfl) (x_store (p := .pointer (some ⟨b2, 0, none⟩)) (v := .bool true) rfl (by kernel_rfl) (by kernel_rfl) hst) (by kernel_rfl) ?_
     clear hst hF; intro a hF; replace hO := hO1; clear hO1
     refine L_nil ?_
     refine hK12 _ _ ?_
     refine wp_seq_k fun K13 hK13 => ?_
     refine wp_region_lit ?_
     refine Vp hF (.pointer (some ⟨b2, 1, none⟩)) ?_; clear hF; intro a hF
     refine Vr hF (.slice (some ⟨b2, 1, none⟩) 16 16) (x_slArr (b := b2) (off := 1) (n := 16) (elem := 5) (lo := 0) (hi := 16) rfl (by kernel_rfl) (by kernel_rfl) (by kernel_rfl) rfl rfl (by omega) (by omega) (by omega) (by kernel_rfl) (by first | rfl | omega) (by first | rfl | omega)) ?_; clear hF; intro a hF
     refine Vp hF (.slice (subP p cap (k + 1 : Nat) 1) ((seg l (k + 1 : Nat) 16).length) (cap - (k + 1 : Nat))) ?_; clear hF; intro a hF
     replace hO := hO.reblk (cs := #[.bool true, .int .u8 0, .int .u8 0, .int .u8 0, .int .u8 0, .int .u8 0, .int .u8 0, .int .u8 0, .int .u8 0, .int .u8 0, .int .u8 0, .int .u8 0, .int .u8 0, .int .u8 0, .int .u8 0, .int .u8 0, .int .u8 0]) (cs' := (ipL sixIp).toArray) (by kernel_rfl) (.tail (.head _))
     obtain ⟨W7, hst, hO1⟩ := run_copy_ip (P := Tryz.prog) (e := 5) (t := 46) (ty := 3) (j := 0) (n := 16) (c := 16) (off := 1) (cq := cap - (k + 1 : Nat)) (q := subP p cap (k + 1 : Nat) 1) (A := seg l (k + 1 : Nat) 16) hO (.tail (.head _)) (by kernel_rfl) (by kernel_rfl) (SlAt.dropL (k := 1) (SlAt.takeL (k := 1) (hl.own hO) (fun _ => rfl) ((k + 1 : Nat) + 16)) (fun _ => rfl) cap (k + 1 : Nat) (by simp only [List.length_take]; omega)) (by omega) (by omega) (by (try unfold arrOff); intros; (try split) <;> omega)
     refine L_valW hF (by kernel_rfl) (by kernel_rfl) (x_copy hst rfl (by kernel_rfl) (by kernel_rfl) rfl) (by kernel_rfl) ?_
     clear hst hF; intro a hF; replace hO := hO1; clear hO1
     refine L_nil ?_
     refine hK13 _ _ ?_
     refine wp_seq_k fun K14 hK14 => ?_
     refine wp_region_lit ?_
     refine Vr hF (ipV (sixIp.cpy 0 (seg l (k + 1 : Nat) 16))) (x_load (p := .pointer (some ⟨b2, 0, none⟩)) rfl (by kernel_rfl) (run_loadA (k := 17) (by kernel_rfl) (by kernel_rfl) (hO.blk (List.mem_cons_of_mem _ List.mem_cons_self)) (by kernel_rfl) (by kernel_rfl))) ?_; clear hF; intro a hF
     obtain ⟨W8, hst, hO1⟩ := run_storeAt (P := Tryz.prog) (k := 17) (T := 33) (off := 0) (v := ipV (sixIp.cpy 0 (seg l (k + 1 : Nat) 16))) (cs := #[.bool false, .int .u8 0, .int .u8 0, .int .u8 0, .int .u8 0, .int .u8 0, .int .u8 0, .int .u8 0, .int .u8 0, .int .u8 0, .int .u8 0, .int .u8 0, .int .u8 0, .int .u8 0, .int .u8 0, .int .u8 0, .int .u8 0]) (cs' := (ipL (sixIp.cpy 0 (seg l (k + 1 : Nat) 16))).toArray) hO (by kernel_rfl) (by kernel_rfl) (by kernel_rfl) (Nat.le_of_ble_eq_true (by kernel_rfl)) (by kernel_rfl) (.tail (.tail (.head _)))
     refine L_skip hF (by kernel_rfl) (by kernel_rfl) (x_store (p := .pointer (some ⟨b1, 0, none⟩)) (v := ipV (sixIp.cpy 0 (seg l (k + 1 : Nat) 16))) rfl (by kernel_rfl) (by kernel_rfl) hst) (by kernel_rfl) ?_
     clear hst hF; intro a hF; replace hO := hO1; clear hO1
     refine L_nil ?_
     refine hK14 _ _ ?_
     refine wp_ret ?_
     refine ret1 hF (v := ipV (sixIp.cpy 0 (seg l (k + 1 : Nat) 16))) rfl (resC (ad := ⟨b1, 0, none⟩) (by kernel_rfl) (run_loadA (k := 17) (by kernel_rfl) (by kernel_rfl) (hO.blk (List.mem_cons_of_mem _ (List.mem_cons_of_mem _ List.mem_cons_self))) (by kernel_rfl) (by kernel_rfl))) (by have hr : readIp l k = ((sixIp.cpy 0 (seg l (k + 1 : Nat) 16)), ((k + 1 : Nat) + 16 : Nat), none) := (by first | exact readIp_short (by assumption) | exact readIp_kind (by assumption) (by assumption) (by assumption) | exact readIp_4s (by assumption) (by assumption) (by assumption) | exact readIp_4 (by assumption) (by assumption) (by assumption) | exact readIp_6s (by assumption) (by assumption) (by assumption) | exact readIp_6 (by assumption) (by assumption) (by assumption) | (exfalso; omega)); rw [hr]; exact ⟨rfl, hO.sub (.cons_cons _ (.cons _ (.cons _ (List.Sublist.refl _))))⟩) .ret (.inl rfl)
    ·
     refine Lc hF (rcur_Bytes_short W0 _ c p cap l (k + 1 : Nat) none 16 W4 hO hl (by omega) (by omega) (by omega) rfl (by assumption)) ?_
     clear hF; rintro _ W9 a ⟨rfl, hk⟩ hF; replace hO := hk; clear hk
     refine Vp hF (.slice none 0 0) ?_; clear hF; intro a hF
     refine L_nil ?_
     refine hK9 _ _ ?_
     refine wp_seq_k fun K15 hK15 => ?_
     refine wp_seq_k fun K16 hK16 => ?_
     refine wp_region_lit ?_
     refine Vp hF (.pointer (some ⟨c, 0, none⟩)) ?_; clear hF; intro a hF
     refine Vp hF (.pointer (some ⟨c, 0, none⟩)) ?_; clear hF; intro a hF
     refine Vp hF (.pointer (some ⟨c, 2, none⟩)) ?_; clear hF; intro a hF
     refine Vr hF (.int .i64 ((nE (some 1)))) (x_load (p := .pointer (some ⟨c, 2, none⟩)) rfl (by kernel_rfl) (run_load1 (by kernel_rfl) ((hO.cell List.mem_cons_self).trans (by kernel_rfl)))) ?_; clear hF; intro a hF
     refine Vr hF (.bool true) (x_bool (x := !(nE (some 1) == 0)) (nE_ne (some 1)) (by kernel_rfl)) ?_; clear hF; intro a hF
     refine L_nil ?_
     refine hK16 _ _ ?_
     refine cond_t hF (by kernel_rfl) (by kernel_rfl) ?_
     refine wp_seq_k fun K17 hK17 => ?_
     refine wp_region_lit ?_
     refine Vr hF (ipV noIp) (x_load (p := .pointer (some ⟨b2, 0, none⟩)) rfl (by kernel_rfl) (run_loadA (k := 17) (by kernel_rfl) (by kernel_rfl) (hO.blk (List.mem_cons_of_mem _ List.mem_cons_self)) (by kernel_rfl) (by kernel_rfl))) ?_; clear hF; intro a hF
     obtain ⟨W10, hst, hO1⟩ := run_storeAt (P := Tryz.prog) (k := 17) (T := 33) (off := 0) (v := ipV noIp) (cs := #[.bool false, .int .u8 0, .int .u8 0, .int .u8 0, .int .u8 0, .int .u8 0, .int .u8 0, .int .u8 0, .int .u8 0, .int .u8 0, .int .u8 0, .int .u8 0, .int .u8 0, .int .u8 0, .int .u8 0, .int .u8 0, .int .u8 0]) (cs' := (ipL noIp).toArray) hO (by kernel_rfl) (by kernel_rfl) (by kernel_rfl) (Nat.le_of_ble_eq_true (by kernel_rfl)) (by kernel_rfl) (.tail (.tail (.head _)))
     refine L_skip hF (by kernel_rfl) (by kernel_rfl) (x_store (p := .pointer (some ⟨b1, 0, none⟩)) (v := ipV noIp) rfl (by kernel_rfl) (by kernel_rfl) hst) (by kernel_rfl) ?_
     clear hst hF; intro a hF; replace hO := hO1; clear hO1
     refine L_nil ?_
     refine hK17 _ _ ?_
     refine wp_ret ?_
     refine then_ret ?_
     refine ret1 hF (v := ipV noIp) rfl (resC (ad := ⟨b1, 0, none⟩) (by kernel_rfl) (run_loadA (k := 17) (by kernel_rfl) (by kernel_rfl) (hO.blk (List.mem_cons_of_mem _ (List.mem_cons_of_mem _ List.mem_cons_self))) (by kernel_rfl) (by kernel_rfl))) (by have hr : readIp l k = (noIp, (k + 1 : Nat), (some 1)) := (by first | exact readIp_short (by assumption) | exact readIp_kind (by assumption) (by assumption) (by assumption) | exact readIp_4s (by assumption) (by assumption) (by assumption) | exact readIp_4 (by assumption) (by assumption) (by assumption) | exact readIp_6s (by assumption) (by assumption) (by assumption) | exact readIp_6 (by assumption) (by assumption) (by assumption) | (exfalso; omega)); rw [hr]; exact ⟨rfl, hO.sub (.cons_cons _ (.cons _ (.cons _ (List.Sublist.refl _))))⟩) .ret (.inl rfl)
   ·
    replace hF := hF.know (d := 27) (v' := .bool false) (by kernel_rfl) (congrArg Value.bool (eqF q3))
    refine cond_f hF (by kernel_rfl) (by kernel_rfl) ?_
    refine wp_skip ?_
    refine hK7 _ _ ?_
    refine wp_seq_k fun K18 hK18 => ?_
    refine wp_region_lit ?_
    refine Vp hF (.pointer (some ⟨c, 0, none⟩)) ?_; clear hF; intro a hF
    refine Vp hF (.int .i64 4) ?_; clear hF; intro a hF
    by_cases q5 : (k + 1 : Nat) + 4 ≤ l.length
    ·
     refine Lc hF (rcur_Bytes_ok W0 _ c p cap l (k + 1 : Nat) none 4 W4 hO hl (by omega) (by omega) (by omega) rfl (by assumption)) ?_
     clear hF; rintro _ W11 a ⟨rfl, hk⟩ hF; replace hO := hk; clear hk
     refine Vp hF (.slice (subP p cap (k + 1 : Nat) 1) ((seg l (k + 1 : Nat) 4).length) (cap - (k + 1 : Nat))) ?_; clear hF; intro a hF
     refine L_nil ?_
     refine hK18 _ _ ?_
     refine wp_seq_k fun K19 hK19 => ?_
     refine wp_seq_k fun K20 hK20 => ?_
     refine wp_region_lit ?_
     refine Vp hF (.pointer (some ⟨c, 0, none⟩)) ?_; clear hF; intro a hF
     refine Vp hF (.pointer (some ⟨c, 0, none⟩)) ?_; clear hF; intro a hF
     refine Vp hF (.pointer (some ⟨c, 2, none⟩)) ?_; clear hF; intro a hF
     refine Vr hF (.int .i64 ((nE none))) (x_load (p := .pointer (some ⟨c, 2, none⟩)) rfl (by kernel_rfl) (run_load1 (by kernel_rfl) ((hO.cell List.mem_cons_self).trans (by kernel_rfl)))) ?_; clear hF; intro a hF
     refine Vr hF (.bool false) (x_bool (x := !(nE none == 0)) (nE_ne none) (by kernel_rfl)) ?_; clear hF; intro a hF
     refine L_nil ?_
     refine hK20 _ _ ?_
     refine cond_f hF (by kernel_rfl) (by kernel_rfl) ?_
     refine wp_skip ?_
     refine hK19 _ _ ?_
     refine wp_seq_k fun K21 hK21 => ?_
     refine wp_region_lit ?_
     refine Vp hF (.int .i64 ((numB (seg l k 1) : Int))) ?_; clear hF; intro a hF
     refine Vp hF (.bool ((numB (seg l k 1) : Int) == 6)) ?_; clear hF; intro a hF
     replace hF := hF.know (d := 38) (v' := .bool false) (by kernel_rfl) (congrArg Value.bool (eqF q3))
     refine Vp hF (.pointer (some ⟨b2, 0, none⟩)) ?_; clear hF; intro a hF
     obtain ⟨W12, hst, hO1⟩ := run_storeAt (P := Tryz.prog) (k := 1) (T := 4) (off := 0) (v := .bool false) (cs := #[.bool false, .int .u8 0, .int .u8 0, .int .u8 0, .int .u8 0, .int .u8 0, .int .u8 0, .int .u8 0, .int .u8 0, .int .u8 0, .int .u8 0, .int .u8 0, .int .u8 0, .int .u8 0, .int .u8 0, .int .u8 0, .int .u8 0]) (cs' := #[.bool false, .int .u8 0, .int .u8 0, .int .u8 0, .int .u8 0, .int .u8 0, .int .u8 0, .int .u8 0, .int .u8 0, .int .u8 0, .int .u8 0, .int .u8 0, .int .u8 0, .int .u8 0, .int .u8 0, .int .u8 0, .int .u8 0]) hO (by kernel_rfl) (by kernel_rfl) (by kernel_rfl) (Nat.le_of_ble_eq_true (by kernel_rfl)) (by kernel_rfl) (.tail (.head _))
     refine L_skip hF (by kernel_rfl) (by kernel_rfl) (x_store (p := .pointer (some ⟨b2, 0, none⟩)) (v := .bool false) rfl (by kernel_rfl) (by kernel_rfl) hst) (by kernel_rfl) ?_
     clear hst hF; intro a hF; replace hO := hO1; clear hO1
     refine L_nil ?_
     refine hK21 _ _ ?_
     refine wp_seq_k fun K22 hK22 => ?_
     refine wp_region_lit ?_
     refine Vp hF (.pointer (some ⟨b2, 1, none⟩)) ?_; clear hF; intro a hF
     refine Vr hF (.slice (some ⟨b2, 1, none⟩) 16 16) (x_slArr (b := b2) (off := 1) (n := 16) (elem := 5) (lo := 0) (hi := 16) rfl (by kernel_rfl) (by kernel_rfl) (by kernel_rfl) rfl rfl (by omega) (by omega) (by omega) (by kernel_rfl) (by first | rfl | omega) (by first | rfl | omega)) ?_; clear hF; intro a hF
     refine Vp hF (.slice (subP p cap (k + 1 : Nat) 1) ((seg l (k + 1 : Nat) 4).length) (cap - (k + 1 : Nat))) ?_; clear hF; intro a hF
     replace hO := hO.reblk (cs := #[.bool false, .int .u8 0, .int .u8 0, .int .u8 0, .int .u8 0, .int .u8 0, .int .u8 0, .int .u8 0, .int .u8 0, .int .u8 0, .int .u8 0, .int .u8 0, .int .u8 0, .int .u8 0, .int .u8 0, .int .u8 0, .int .u8 0]) (cs' := (ipL noIp).toArray) (by kernel_rfl) (.tail (.head _))
     obtain ⟨W13, hst, hO1⟩ := run_copy_ip (P := Tryz.prog) (e := 5) (t := 46) (ty := 3) (j := 0) (n := 16) (c := 16) (off := 1) (cq := cap - (k + 1 : Nat)) (q := subP p cap (k + 1 : Nat) 1) (A := seg l (k + 1 : Nat) 4) hO (.tail (.head _)) (by kernel_rfl) (by kernel_rfl) (SlAt.dropL (k := 1) (SlAt.takeL (k := 1) (hl.own hO) (fun _ => rfl) ((k + 1 : Nat) + 4)) (fun _ => rfl) cap (k + 1 : Nat) (by simp only [List.length_take]; omega)) (by (first | omega | (have hs4 := seg_len (l := l) (a := k + 1) (n := 4) (by assumption); omega) | (have hs4 := seg_len (l := l) (a := k + 1) (n := 16) (by assumption); omega))) (by (first | omega | (have hs4 := seg_len (l := l) (a := k + 1) (n := 4) (by assumption); omega) | (have hs4 := seg_len (l := l) (a := k + 1) (n := 16) (by assumption); omega))) (by (try unfold arrOff); intros; (try split) <;> (first | omega | (have hs4 := seg_len (l := l) (a := k + 1) (n := 4) (by assumption); omega) | (have hs4 := seg_len (l := l) (a := k + 1) (n := 16) (by assumption); omega)))
     refine L_valW hF (by kernel_rfl) (by kernel_rfl) (x_copy hst rfl (by kernel_rfl) (by kernel_rfl) rfl) (by kernel_rfl) ?_
     clear hst hF; intro a hF; replace hO := hO1; clear hO1
     refine L_nil ?_
     refine hK22 _ _ ?_
     refine wp_seq_k fun K23 hK23 => ?_
     refine wp_region_lit ?_
     refine Vr hF (ipV (noIp.cpy 0 (seg l (k + 1 : Nat) 4))) (x_load (p := .pointer (some ⟨b2, 0, none⟩)) rfl (by kernel_rfl) (run_loadA (k := 17) (by kernel_rfl) (by kernel_rfl) (hO.blk (List.mem_cons_of_mem _ List.mem_cons_self)) (by kernel_rfl) (by kernel_rfl))) ?_; clear hF; intro a hF
     obtain ⟨W14, hst, hO1⟩ := run_storeAt (P := Tryz.prog) (k := 17) (T := 33) (off := 0) (v := ipV (noIp.cpy 0 (seg l (k + 1 : Nat) 4))) (cs := #[.bool false, .int .u8 0, .int .u8 0, .int .u8 0, .int .u8 0, .int .u8 0, .int .u8 0, .int .u8 0, .int .u8 0, .int .u8 0, .int .u8 0, .int .u8 0, .int .u8 0, .int .u8 0, .int .u8 0, .int .u8 0, .int .u8 0]) (cs' := (ipL (noIp.cpy 0 (seg l (k + 1 : Nat) 4))).toArray) hO (by kernel_rfl) (by kernel_rfl) (by kernel_rfl) (Nat.le_of_ble_eq_true (by kernel_rfl)) (by kernel_rfl) (.tail (.tail (.head _)))
     refine L_skip hF (by kernel_rfl) (by kernel_rfl) (x_store (p := .pointer (some ⟨b1, 0, none⟩)) (v := ipV (noIp.cpy 0 (seg l (k + 1 : Nat) 4))) rfl (by kernel_rfl) (by kernel_rfl) hst) (by kernel_rfl) ?_
     clear hst hF; intro a hF; replace hO := hO1; clear hO1
     refine L_nil ?_
     refine hK23 _ _ ?_
     refine wp_ret ?_
     refine ret1 hF (v := ipV (noIp.cpy 0 (seg l (k + 1 : Nat) 4))) rfl (resC (ad := ⟨b1, 0, none⟩) (by kernel_rfl) (run_loadA (k := 17) (by kernel_rfl) (by kernel_rfl) (hO.blk (List.mem_cons_of_mem _ (List.mem_cons_of_mem _ List.mem_cons_self))) (by kernel_rfl) (by kernel_rfl))) (by have hr : readIp l k = ((noIp.cpy 0 (seg l (k + 1 : Nat) 4)), ((k + 1 : Nat) + 4 : Nat), none) := (by first | exact readIp_short (by assumption) | exact readIp_kind (by assumption) (by assumption) (by assumption) | exact readIp_4s (by assumption) (by assumption) (by assumption) | exact readIp_4 (by assumption) (by assumption) (by assumption) | exact readIp_6s (by assumption) (by assumption) (by assumption) | exact readIp_6 (by assumption) (by assumption) (by assumption) | (exfalso; omega)); rw [hr]; exact ⟨rfl, hO.sub (.cons_cons _ (.cons _ (.cons _ (List.Sublist.refl _))))⟩) .ret (.inl rfl)
    ·
     refine Lc hF (rcur_Bytes_short W0 _ c p cap l (k + 1 : Nat) none 4 W4 hO hl (by omega) (by omega) (by omega) rfl (by assumption)) ?_
     clear hF; rintro _ W15 a ⟨rfl, hk⟩ hF; replace hO := hk; clear hk
     refine Vp hF (.slice none 0 0) ?_; clear hF; intro a hF
     refine L_nil ?_
     refine hK18 _ _ ?_
     refine wp_seq_k fun K24 hK24 => ?_
     refine wp_seq_k fun K25 hK25 => ?_
     refine wp_region_lit ?_
     refine Vp hF (.pointer (some ⟨c, 0, none⟩)) ?_; clear hF; intro a hF
     refine Vp hF (.pointer (some ⟨c, 0, none⟩)) ?_; clear hF; intro a hF
     refine Vp hF (.pointer (some ⟨c, 2, none⟩)) ?_; clear hF; intro a hF
     refine Vr hF (.int .i64 ((nE (some 1)))) (x_load (p := .pointer (some ⟨c, 2, none⟩)) rfl (by kernel_rfl) (run_load1 (by kernel_rfl) ((hO.cell List.mem_cons_self).trans (by kernel_rfl)))) ?_; clear hF; intro a hF
     refine Vr hF (.bool true) (x_bool (x := !(nE (some 1) == 0)) (nE_ne (some 1)) (by kernel_rfl)) ?_; clear hF; intro a hF
     refine L_nil ?_
     refine hK25 _ _ ?_
     refine cond_t hF (by kernel_rfl) (by kernel_rfl) ?_
     refine wp_seq_k fun K26 hK26 => ?_
     refine wp_region_lit ?_
     refine Vr hF (ipV noIp) (x_load (p := .pointer (some ⟨b2, 0, none⟩)) rfl (by kernel_rfl) (run_loadA (k := 17) (by kernel_rfl) (by kernel_rfl) (hO.blk (List.mem_cons_of_mem _ List.mem_cons_self)) (by kernel_rfl) (by kernel_rfl))) ?_; clear hF; intro a hF
     obtain ⟨W16, hst, hO1⟩ := run_storeAt (P := Tryz.prog) (k := 17) (T := 33) (off := 0) (v := ipV noIp) (cs := #[.bool false, .int .u8 0, .int .u8 0, .int .u8 0, .int .u8 0, .int .u8 0, .int .u8 0, .int .u8 0, .int .u8 0, .int .u8 0, .int .u8 0, .int .u8 0, .int .u8 0, .int .u8 0, .int .u8 0, .int .u8 0, .int .u8 0]) (cs' := (ipL noIp).toArray) hO (by kernel_rfl) (by kernel_rfl) (by kernel_rfl) (Nat.le_of_ble_eq_true (by kernel_rfl)) (by kernel_rfl) (.tail (.tail (.head _)))
     refine L_skip hF (by kernel_rfl) (by kernel_rfl) (x_store (p := .pointer (some ⟨b1, 0, none⟩)) (v := ipV noIp) rfl (by kernel_rfl) (by kernel_rfl) hst) (by kernel_rfl) ?_
     clear hst hF; intro a hF; replace hO := hO1; clear hO1
     refine L_nil ?_
     refine hK26 _ _ ?_
     refine wp_ret ?_
     refine then_ret ?_
     refine ret1 hF (v := ipV noIp) rfl (resC (ad := ⟨b1, 0, none⟩) (by kernel_rfl) (run_loadA (k := 17) (by kernel_rfl) (by kernel_rfl) (hO.blk (List.mem_cons_of_mem _ (List.mem_cons_of_mem _ List.mem_cons_self))) (by kernel_rfl) (by kernel_rfl))) (by have hr : readIp l k = (noIp, (k + 1 : Nat), (some 1)) := (by first | exact readIp_short (by assumption) | exact readIp_kind (by assumption) (by assumption) (by assumption) | exact readIp_4s (by assumption) (by assumption) (by assumption) | exact readIp_4 (by assumption) (by assumption) (by assumption) | exact readIp_6s (by assumption) (by assumption) (by assumption) | exact readIp_6 (by assumption) (by assumption) (by assumption) | (exfalso; omega)); rw [hr]; exact ⟨rfl, hO.sub (.cons_cons _ (.cons _ (.cons _ (List.Sublist.refl _))))⟩) .ret (.inl rfl)
  ·
   replace hF := hF.know (d := 12) (v' := .bool true) (by kernel_rfl) (congrArg Value.bool (neT q2))
   refine Vp hF (.int .i64 ((numB (seg l k 1) : Int))) ?_; clear hF; intro a hF
   refine Vp hF (.bool (!((numB (seg l k 1) : Int) == 6))) ?_; clear hF; intro a hF
   refine Vp hF (.bool (!((numB (seg l k 1) : Int) == 6))) ?_; clear hF; intro a hF
   refine Vp hF (.bool (!((numB (seg l k 1) : Int) == 6))) ?_; clear hF; intro a hF
   by_cases q6 : (numB (seg l k 1) : Int) = 6
   ·
    replace hF := hF.know (d := 16) (v' := .bool false) (by kernel_rfl) (congrArg Value.bool (neF (not_not_intro q6)))
    refine Lo hF ?_; clear hF; intro a hF
    refine Lo hF ?_; clear hF; intro a hF
    refine Lo hF ?_; clear hF; intro a hF
    refine Lo hF ?_; clear hF; intro a hF
    refine Lo hF ?_; clear hF; intro a hF
    refine Vp hF (.bool false) ?_; clear hF; intro a hF
    refine L_nil ?_
    refine hK5 _ _ ?_
    refine cond_f hF (by kernel_rfl) (by kernel_rfl) ?_
    refine wp_skip ?_
    refine hK4 _ _ ?_
    refine wp_seq_k fun K27 hK27 => ?_
    refine wp_region_lit ?_
    refine Vp hF (.int .i64 4) ?_; clear hF; intro a hF
    refine L_nil ?_
    refine hK27 _ _ ?_
    refine wp_seq_k fun K28 hK28 => ?_
    refine wp_seq_k fun K29 hK29 => ?_
    refine wp_region_lit ?_
    refine Vp hF (.int .i64 ((numB (seg l k 1) : Int))) ?_; clear hF; intro a hF
    refine Vp hF (.bool ((numB (seg l k 1) : Int) == 6)) ?_; clear hF; intro a hF
    replace hF := hF.know (d := 27) (v' := .bool true) (by kernel_rfl) (congrArg Value.bool (eqT q6))
    refine L_nil ?_
    refine hK29 _ _ ?_
    refine cond_t hF (by kernel_rfl) (by kernel_rfl) ?_
    refine wp_region_lit ?_
    refine Vp hF (.int .i64 16) ?_; clear hF; intro a hF
    refine L_nil ?_
    refine hK28 _ _ ?_
    refine wp_seq_k fun K30 hK30 => ?_
    refine wp_region_lit ?_
    refine Vp hF (.pointer (some ⟨c, 0, none⟩)) ?_; clear hF; intro a hF
    refine Vp hF (.int .i64 16) ?_; clear hF; intro a hF
    by_cases q7 : (k + 1 : Nat) + 16 ≤ l.length
    ·
     refine Lc hF (rcur_Bytes_ok W0 _ c p cap l (k + 1 : Nat) none 16 W4 hO hl (by omega) (by omega) (by omega) rfl (by assumption)) ?_
     clear hF; rintro _ W17 a ⟨rfl, hk⟩ hF; replace hO := hk; clear hk
     refine Vp hF (.slice (subP p cap (k + 1 : Nat) 1) ((seg l (k + 1 : Nat) 16).length) (cap - (k + 1 : Nat))) ?_; clear hF; intro a hF
     refine L_nil ?_
     refine hK30 _ _ ?_
     refine wp_seq_k fun K31 hK31 => ?_
     refine wp_seq_k fun K32 hK32 => ?_
     refine wp_region_lit ?_
     refine Vp hF (.pointer (some ⟨c, 0, none⟩)) ?_; clear hF; intro a hF
     refine Vp hF (.pointer (some ⟨c, 0, none⟩)) ?_; clear hF; intro a hF
     refine Vp hF (.pointer (some ⟨c, 2, none⟩)) ?_; clear hF; intro a hF
     refine Vr hF (.int .i64 ((nE none))) (x_load (p := .pointer (some ⟨c, 2, none⟩)) rfl (by kernel_rfl) (run_load1 (by kernel_rfl) ((hO.cell List.mem_cons_self).trans (by kernel_rfl)))) ?_; clear hF; intro a hF
     refine Vr hF (.bool false) (x_bool (x := !(nE none == 0)) (nE_ne none) (by kernel_rfl)) ?_; clear hF; intro a hF
     refine L_nil ?_
     refine hK32 _ _ ?_
     refine cond_f hF (by kernel_rfl) (by kernel_rfl) ?_
     refine wp_skip ?_
     refine hK31 _ _ ?_
     refine wp_seq_k fun K33 hK33 => ?_
     refine wp_region_lit ?_
     refine Vp hF (.int .i64 ((numB (seg l k 1) : Int))) ?_; clear hF; intro a hF
     refine Vp hF (.bool ((numB (seg l k 1) : Int) == 6)) ?_; clear hF; intro a hF
     replace hF := hF.know (d := 38) (v' := .bool true) (by kernel_rfl) (congrArg Value.bool (eqT q6))
     refine Vp hF (.pointer (some ⟨b2, 0, none⟩)) ?_; clear hF; intro a hF
     obtain ⟨W18, hst, hO1⟩ := run_storeAt (P := Tryz.prog) (k := 1) (T := 4) (off := 0) (v := .bool true) (cs := #[.bool false, .int .u8 0, .int .u8 0, .int .u8 0, .int .u8 0, .int .u8 0, .int .u8 0, .int .u8 0, .int .u8 0, .int .u8 0, .int .u8 0, .int .u8 0, .int .u8 0, .int .u8 0, .int .u8 0, .int .u8 0, .int .u8 0]) (cs' := #[.bool true, .int .u8 0, .int .u8 0, .int .u8 0, .int .u8 0, .int .u8 0, .int .u8 0, .int .u8 0, .int .u8 0, .int .u8 0, .int .u8 0, .int .u8 0, .int .u8 0, .int .u8 0, .int .u8 0, .int .u8 0, .int .u8 0]) hO (by kernel_rfl) (by kernel_rfl) (by kernel_rfl) (Nat.le_of_ble_eq_true (by kernel_rfl)) (by kernel_rfl) (.tail (.head _))
     refine L_skip hF (by kernel_rfl) (by kernel_rfl) (x_store (p := .pointer (some ⟨b2, 0, none⟩)) (v := .bool true) rfl (by kernel_rfl) (by kernel_rfl) hst) (by kernel_rfl) ?_
     clear hst hF; intro a hF; replace hO := hO1; clear hO1
     refine L_nil ?_
     refine hK33 _ _ ?_
     refine wp_seq_k fun K34 hK34 => ?_
     refine wp_region_lit ?_
     refine Vp hF (.pointer (some ⟨b2, 1, none⟩)) ?_; clear hF; intro a hF
     refine Vr hF (.slice (some ⟨b2, 1, none⟩) 16 16) (x_slArr (b := b2) (off := 1) (n := 16) (elem := 5) (lo := 0) (hi := 16) rfl (by kernel_rfl) (by kernel_rfl) (by kernel_rfl) rfl rfl (by omega) (by omega) (by omega) (by kernel_rfl) (by first | rfl | omega) (by first | rfl | omega)) ?_; clear hF; intro a hF
     refine Vp hF (.slice (subP p cap (k + 1 : Nat) 1) ((seg l (k + 1 : Nat) 16).length) (cap - (k + 1 : Nat))) ?_; clear hF; intro a hF
     replace hO := hO.reblk (cs := #[.bool true, .int .u8 0, .int .u8 0, .int .u8 0, .int .u8 0, .int .u8 0, .int .u8 0, .int .u8 0, .int .u8 0, .int .u8 0, .int .u8 0, .int .u8 0, .int .u8 0, .int .u8 0, .int .u8 0, .int .u8 0, .int .u8 0]) (cs' := (ipL sixIp).toArray) (by kernel_rfl) (.tail (.head _))
     obtain ⟨W19, hst, hO1⟩ := run_copy_ip (P := Tryz.prog) (e := 5) (t := 46) (ty := 3) (j := 0) (n := 16) (c := 16) (off := 1) (cq := cap - (k + 1 : Nat)) (q := subP p cap (k + 1 : Nat) 1) (A := seg l (k + 1 : Nat) 16) hO (.tail (.head _)) (by kernel_rfl) (by kernel_rfl) (SlAt.dropL (k := 1) (SlAt.takeL (k := 1) (hl.own hO) (fun _ => rfl) ((k + 1 : Nat) + 16)) (fun _ => rfl) cap (k + 1 : Nat) (by simp only [List.length_take]; omega)) (by (first | omega | (have hs4 := seg_len (l := l) (a := k + 1) (n := 4) (by assumption); omega) | (have hs4 := seg_len (l := l) (a := k + 1) (n := 16) (by assumption); omega))) (by (first | omega | (have hs4 := seg_len (l := l) (a := k + 1) (n := 4) (by assumption); omega) | (have hs4 := seg_len (l := l) (a := k + 1) (n := 16) (by assumption); omega))) (by (try unfold arrOff); intros; (try split) <;> (first | omega | (have hs4 := seg_len (l := l) (a := k + 1) (n := 4) (by assumption); omega) | (have hs4 := seg_len (l := l) (a := k + 1) (n := 16) (by assumption); omega)))
     refine L_valW hF (by kernel_rfl) (by kernel_rfl) (x_copy hst rfl (by kernel_rfl) (by kernel_rfl) rfl) (by kernel_rfl) ?_
     clear hst hF; intro a hF; replace hO := hO1; clear hO1
     refine L_nil ?_
     refine hK34 _ _ ?_
     refine wp_seq_k fun K35 hK35 => ?_
     refine wp_region_lit ?_
     refine Vr hF (ipV (sixIp.cpy 0 (seg l (k + 1 : Nat) 16))) (x_load (p := .pointer (some ⟨b2, 0, none⟩)) rfl (by kernel_rfl) (run_loadA (k := 17) (by kernel_rfl) (by kernel_rfl) (hO.blk (List.mem_cons_of_mem _ List.mem_cons_self)) (by kernel_rfl) (by kernel_rfl))) ?_; clear hF; intro a hF
     obtain ⟨W20, hst, hO1⟩ := run_storeAt (P := Tryz.prog) (k := 17) (T := 33) (off := 0) (v := ipV (sixIp.cpy 0 (seg l (k + 1 : Nat) 16))) (cs := #[.bool false, .int .u8 0, .int .u8 0, .int .u8 0, .int .u8 0, .int .u8 0, .int .u8 0, .int .u8 0, .int .u8 0, .int .u8 0, .int .u8 0, .int .u8 0, .int .u8 0, .int .u8 0, .int .u8 0, .int .u8 0, .int .u8 0]) (cs' := (ipL (sixIp.cpy 0 (seg l (k + 1 : Nat) 16))).toArray) hO (by kernel_rfl) (by kernel_rfl) (by kernel_rfl) (Nat.le_of_ble_eq_true (by kernel_rfl)) (by kernel_rfl) (.tail (.tail (.head _)))
     refine L_skip hF (by kernel_rfl) (by kernel_rfl) (x_store (p := .pointer (some ⟨b1, 0, none⟩)) (v := ipV (sixIp.cpy 0 (seg l (k + 1 : Nat) 16))) rfl (by kernel_rfl) (by kernel_rfl) hst) (by kernel_rfl) ?_
     clear hst hF; intro a hF; replace hO := hO1; clear hO1
     refine L_nil ?_
     refine hK35 _ _ ?_
     refine wp_ret ?_
     refine ret1 hF (v := ipV (sixIp.cpy 0 (seg l (k + 1 : Nat) 16))) rfl (resC (ad := ⟨b1, 0, none⟩) (by kernel_rfl) (run_loadA (k := 17) (by kernel_rfl) (by kernel_rfl) (hO.blk (List.mem_cons_of_mem _ (List.mem_cons_of_mem _ List.mem_cons_self))) (by kernel_rfl) (by kernel_rfl))) (by have hr : readIp l k = ((sixIp.cpy 0 (seg l (k + 1 : Nat) 16)), ((k + 1 : Nat) + 16 : Nat), none) := (by first | exact readIp_short (by assumption) | exact readIp_kind (by assumption) (by assumption) (by assumption) | exact readIp_4s (by assumption) (by assumption) (by assumption) | exact readIp_4 (by assumption) (by assumption) (by assumption) | exact readIp_6s (by assumption) (by assumption) (by assumption) | exact readIp_6 (by assumption) (by assumption) (by assumption) | (exfalso; omega)); rw [hr]; exact ⟨rfl, hO.sub (.cons_cons _ (.cons _ (.cons _ (List.Sublist.refl _))))⟩) .ret (.inl rfl)
    ·
     refine Lc hF (rcur_Bytes_short W0 _ c p cap l (k + 1 : Nat) none 16 W4 hO hl (by omega) (by omega) (by omega) rfl (by assumption)) ?_
     clear hF; rintro _ W21 a ⟨rfl, hk⟩ hF; replace hO := hk; clear hk
     refine Vp hF (.slice none 0 0) ?_; clear hF; intro a hF
     refine L_nil ?_
     refine hK30 _ _ ?_
     refine wp_seq_k fun K36 hK36 => ?_
     refine wp_seq_k fun K37 hK37 => ?_
     refine wp_region_lit ?_
     refine Vp hF (.pointer (some ⟨c, 0, none⟩)) ?_; clear hF; intro a hF
     refine Vp hF (.pointer (some ⟨c, 0, none⟩)) ?_; clear hF; intro a hF
     refine Vp hF (.pointer (some ⟨c, 2, none⟩)) ?_; clear hF; intro a hF
     refine Vr hF (.int .i64 ((nE (some 1)))) (x_load (p := .pointer (some ⟨c, 2, none⟩)) rfl (by kernel_rfl) (run_load1 (by kernel_rfl) ((hO.cell List.mem_cons_self).trans (by kernel_rfl)))) ?_; clear hF; intro a hF
     refine Vr hF (.bool true) (x_bool (x := !(nE (some 1) == 0)) (nE_ne (some 1)) (by kernel_rfl)) ?_; clear hF; intro a hF
     refine L_nil ?_
     refine hK37 _ _ ?_
     refine cond_t hF (by kernel_rfl) (by kernel_rfl) ?_
     refine wp_seq_k fun K38 hK38 => ?_
     refine wp_region_lit ?_
     refine Vr hF (ipV noIp) (x_load (p := .pointer (some ⟨b2, 0, none⟩)) rfl (by kernel_rfl) (run_loadA (k := 17) (by kernel_rfl) (by kernel_rfl) (hO.blk (List.mem_cons_of_mem _ List.mem_cons_self)) (by kernel_rfl) (by kernel_rfl))) ?_; clear hF; intro a hF
     obtain ⟨W22, hst, hO1⟩ := run_storeAt (P := Tryz.prog) (k := 17) (T := 33) (off := 0) (v := ipV noIp) (cs := #[.bool false, .int .u8 0, .int .u8 0, .int .u8 0, .int .u8 0, .int .u8 0, .int .u8 0, .int .u8 0, .int .u8 0, .int .u8 0, .int .u8 0, .int .u8 0, .int .u8 0, .int .u8 0, .int .u8 0, .int .u8 0, .int .u8 0]) (cs' := (ipL noIp).toArray) hO (by kernel_rfl) (by kernel_rfl) (by kernel_rfl) (Nat.le_of_ble_eq_true (by kernel_rfl)) (by kernel_rfl) (.tail (.tail (.head _)))
     refine L_skip hF (by kernel_rfl) (by kernel_rfl) (x_store (p := .pointer (some ⟨b1, 0, none⟩)) (v := ipV noIp) rfl (by kernel_rfl) (by kernel_rfl) hst) (by kernel_rfl) ?_
     clear hst hF; intro a hF; replace hO := hO1; clear hO1
     refine L_nil ?_
     refine hK38 _ _ ?_
     refine wp_ret ?_
     refine then_ret ?_
     refine ret1 hF (v := ipV noIp) rfl (resC (ad := ⟨b1, 0, none⟩) (by kernel_rfl) (run_loadA (k := 17) (by kernel_rfl) (by kernel_rfl) (hO.blk (List.mem_cons_of_mem _ (List.mem_cons_of_mem _ List.mem_cons_self))) (by kernel_rfl) (by kernel_rfl))) (by have hr : readIp l k = (noIp, (k + 1 : Nat), (some 1)) := (by first | exact readIp_short (by assumption) | exact readIp_kind (by assumption) (by assumption) (by assumption) | exact readIp_4s (by assumption) (by assumption) (by assumption) | exact readIp_4 (by assumption) (by assumption) (by assumption) | exact readIp_6s (by assumption) (by assumption) (by assumption) | exact readIp_6 (by assumption) (by assumption) (by assumption) | (exfalso; omega)); rw [hr]; exact ⟨rfl, hO.sub (.cons_cons _ (.cons _ (.cons _ (List.Sublist.refl _))))⟩) .ret (.inl rfl)
   ·
    replace hF := hF.know (d := 16) (v' := .bool true) (by kernel_rfl) (congrArg Value.bool (neT q6))
    refine Vp hF (.pointer (some ⟨c, 0, none⟩)) ?_; clear hF; intro a hF
    refine Vp hF (.pointer (some ⟨c, 0, none⟩)) ?_; clear hF; intro a hF
    refine Vp hF (.pointer (some ⟨c, 2, none⟩)) ?_; clear hF; intro a hF
    refine Vr hF (.int .i64 ((nE none))) (x_load (p := .pointer (some ⟨c, 2, none⟩)) rfl (by kernel_rfl) (run_load1 (by kernel_rfl) ((hO.cell List.mem_cons_self).trans (by kernel_rfl)))) ?_; clear hF; intro a hF
    refine Vr hF (.bool true) (x_bool (x := (nE none == 0)) (nE_eq none) (by kernel_rfl)) ?_; clear hF; intro a hF
    refine Vp hF (.bool true) ?_; clear hF; intro a hF
    refine L_nil ?_
    refine hK5 _ _ ?_
    refine cond_t hF (by kernel_rfl) (by kernel_rfl) ?_
    refine wp_region_lit ?_
    refine Vp hF (.pointer (some ⟨c, 0, none⟩)) ?_; clear hF; intro a hF
    refine Vp hF (.pointer (some ⟨c, 0, none⟩)) ?_; clear hF; intro a hF
    refine Vp hF (.pointer (some ⟨c, 2, none⟩)) ?_; clear hF; intro a hF
    obtain ⟨W23, hst, hO1⟩ := run_storeAt (P := Tryz.prog) (k := 1) (T := 3) (off := 2) (v := .int .i64 7) (cs := #[.slice p l.length cap, .int .i64 (((k + 1 : Nat) : Int)), .int .i64 ((nE none))]) (cs' := #[.slice p l.length cap, .int .i64 (((k + 1 : Nat) : Int)), .int .i64 7]) hO (by kernel_rfl) (by kernel_rfl) (by kernel_rfl) (Nat.le_of_ble_eq_true (by kernel_rfl)) (by kernel_rfl) (.head _)
    refine L_skip hF (by kernel_rfl) (by kernel_rfl) (x_store (p := .pointer (some ⟨c, 2, none⟩)) (v := .int .i64 7) rfl (by kernel_rfl) (by kernel_rfl) hst) (by kernel_rfl) ?_
    clear hst hF; intro a hF; replace hO := hO1; clear hO1
    refine L_nil ?_
    refine hK4 _ _ ?_
    refine wp_seq_k fun K39 hK39 => ?_
    refine wp_region_lit ?_
    refine Vp hF (.int .i64 4) ?_; clear hF; intro a hF
    refine L_nil ?_
    refine hK39 _ _ ?_
    refine wp_seq_k fun K40 hK40 => ?_
    refine wp_seq_k fun K41 hK41 => ?_
    refine wp_region_lit ?_
    refine Vp hF (.int .i64 ((numB (seg l k 1) : Int))) ?_; clear hF; intro a hF
    refine Vp hF (.bool ((numB (seg l k 1) : Int) == 6)) ?_; clear hF; intro a hF
    replace hF := hF.know (d := 27) (v' := .bool false) (by kernel_rfl) (congrArg Value.bool (eqF q6))
    refine L_nil ?_
    refine hK41 _ _ ?_
    refine cond_f hF (by kernel_rfl) (by kernel_rfl) ?_
    refine wp_skip ?_
    refine hK40 _ _ ?_
    refine wp_seq_k fun K42 hK42 => ?_
    refine wp_region_lit ?_
    refine Vp hF (.pointer (some ⟨c, 0, none⟩)) ?_; clear hF; intro a hF
    refine Vp hF (.int .i64 4) ?_; clear hF; intro a hF
    refine Lc hF (rcur_Bytes_err W0 _ c p cap l (k + 1 : Nat) (some 6) 4 W23 hO hl (by omega) (by omega) (by omega) rfl) ?_
    clear hF; rintro _ W24 a ⟨rfl, hk⟩ hF; replace hO := hk; clear hk
    refine Vp hF (.slice none 0 0) ?_; clear hF; intro a hF
    refine L_nil ?_
    refine hK42 _ _ ?_
    refine wp_seq_k fun K43 hK43 => ?_
    refine wp_seq_k fun K44 hK44 => ?_
    refine wp_region_lit ?_
    refine Vp hF (.pointer (some ⟨c, 0, none⟩)) ?_; clear hF; intro a hF
    refine Vp hF (.pointer (some ⟨c, 0, none⟩)) ?_; clear hF; intro a hF
    refine Vp hF (.pointer (some ⟨c, 2, none⟩)) ?_; clear hF; intro a hF
    refine Vr hF (.int .i64 7) (x_load (p := .pointer (some ⟨c, 2, none⟩)) rfl (by kernel_rfl) (run_load1 (by kernel_rfl) ((hO.cell List.mem_cons_self).trans (by kernel_rfl)))) ?_; clear hF; intro a hF
    refine Vp hF (.bool true) ?_; clear hF; intro a hF
    refine L_nil ?_
    refine hK44 _ _ ?_
    refine cond_t hF (by kernel_rfl) (by kernel_rfl) ?_
    refine wp_seq_k fun K45 hK45 => ?_
    refine wp_region_lit ?_
    refine Vr hF (ipV noIp) (x_load (p := .pointer (some ⟨b2, 0, none⟩)) rfl (by kernel_rfl) (run_loadA (k := 17) (by kernel_rfl) (by kernel_rfl) (hO.blk (List.mem_cons_of_mem _ List.mem_cons_self)) (by kernel_rfl) (by kernel_rfl))) ?_; clear hF; intro a hF
    obtain ⟨W25, hst, hO1⟩ := run_storeAt (P := Tryz.prog) (k := 17) (T := 33) (off := 0) (v := ipV noIp) (cs := #[.bool false, .int .u8 0, .int .u8 0, .int .u8 0, .int .u8 0, .int .u8 0, .int .u8 0, .int .u8 0, .int .u8 0, .int .u8 0, .int .u8 0, .int .u8 0, .int .u8 0, .int .u8 0, .int .u8 0, .int .u8 0, .int .u8 0]) (cs' := (ipL noIp).toArray) hO (by kernel_rfl) (by kernel_rfl) (by kernel_rfl) (Nat.le_of_ble_eq_true (by kernel_rfl)) (by kernel_rfl) (.tail (.tail (.head _)))
    refine L_skip hF (by kernel_rfl) (by kernel_rfl) (x_store (p := .pointer (some ⟨b1, 0, none⟩)) (v := ipV noIp) rfl (by kernel_rfl) (by kernel_rfl) hst) (by kernel_rfl) ?_
    clear hst hF; intro a hF; replace hO := hO1; clear hO1
    refine L_nil ?_
    refine hK45 _ _ ?_
    refine wp_ret ?_
    refine then_ret ?_
    refine ret1 hF (v := ipV noIp) rfl (resC (ad := ⟨b1, 0, none⟩) (by kernel_rfl) (run_loadA (k := 17) (by kernel_rfl) (by kernel_rfl) (hO.blk (List.mem_cons_of_mem _ (List.mem_cons_of_mem _ List.mem_cons_self))) (by kernel_rfl) (by kernel_rfl))) (by have hr : readIp l k = (noIp, (k + 1 : Nat), (some 6)) := (by first | exact readIp_short (by assumption) | exact readIp_kind (by assumption) (by assumption) (by assumption) | exact readIp_4s (by assumption) (by assumption) (by assumption) | exact readIp_4 (by assumption) (by assumption) (by assumption) | exact readIp_6s (by assumption) (by assumption) (by assumption) | exact readIp_6 (by assumption) (by assumption) (by assumption) | (exfalso; omega)); rw [hr]; exact ⟨rfl, hO.sub (.cons_cons _ (.cons _ (.cons _ (List.Sublist.refl _))))⟩) .ret (.inl rfl)
 ·
  replace hO := hO.front (.tail (.tail (.head _)))
  refine Lc hF (rcur_Num1_short W0 _ c p cap l k e W3 hO hl (by omega) (by omega) (by omega) (by assumption) (by assumption)) ?_
  clear hF; rintro _ W26 a ⟨rfl, hk⟩ hF; replace hO := hk; clear hk
  refine Vp hF (.int .i64 0) ?_; clear hF; intro a hF
  refine L_nil ?_
  refine hK3 _ _ ?_
  refine wp_seq_k fun K46 hK46 => ?_
  refine wp_seq_k fun K47 hK47 => ?_
  refine wp_region_lit ?_
  refine Vp hF (.int .i64 0) ?_; clear hF; intro a hF
  refine Vp hF (.bool true) ?_; clear hF; intro a hF
  refine Vp hF (.bool true) ?_; clear hF; intro a hF
  refine Vp hF (.int .i64 0) ?_; clear hF; intro a hF
  refine Vp hF (.bool true) ?_; clear hF; intro a hF
  refine Vp hF (.bool true) ?_; clear hF; intro a hF
  refine Vp hF (.bool true) ?_; clear hF; intro a hF
  refine Vp hF (.pointer (some ⟨c, 0, none⟩)) ?_; clear hF; intro a hF
  refine Vp hF (.pointer (some ⟨c, 0, none⟩)) ?_; clear hF; intro a hF
  refine Vp hF (.pointer (some ⟨c, 2, none⟩)) ?_; clear hF; intro a hF
  refine Vr hF (.int .i64 ((nE (some 1)))) (x_load (p := .pointer (some ⟨c, 2, none⟩)) rfl (by kernel_rfl) (run_load1 (by kernel_rfl) ((hO.cell List.mem_cons_self).trans (by kernel_rfl)))) ?_; clear hF; intro a hF
  refine Vr hF (.bool false) (x_bool (x := (nE (some 1) == 0)) (nE_eq (some 1)) (by kernel_rfl)) ?_; clear hF; intro a hF
  refine Vp hF (.bool false) ?_; clear hF; intro a hF
  refine L_nil ?_
  refine hK47 _ _ ?_
  refine cond_f hF (by kernel_rfl) (by kernel_rfl) ?_
  refine wp_skip ?_
  refine hK46 _ _ ?_
  refine wp_seq_k fun K48 hK48 => ?_
  refine wp_region_lit ?_
  refine Vp hF (.int .i64 4) ?_; clear hF; intro a hF
  refine L_nil ?_
  refine hK48 _ _ ?_
  refine wp_seq_k fun K49 hK49 => ?_
  refine wp_seq_k fun K50 hK50 => ?_
  refine wp_region_lit ?_
  refine Vp hF (.int .i64 0) ?_; clear hF; intro a hF
  refine Vp hF (.bool false) ?_; clear hF; intro a hF
  refine L_nil ?_
  refine hK50 _ _ ?_
  refine cond_f hF (by kernel_rfl) (by kernel_rfl) ?_
  refine wp_skip ?_
  refine hK49 _ _ ?_
  refine wp_seq_k fun K51 hK51 => ?_
  refine wp_region_lit ?_
  refine Vp hF (.pointer (some ⟨c, 0, none⟩)) ?_; clear hF; intro a hF
  refine Vp hF (.int .i64 4) ?_; clear hF; intro a hF
  refine Lc hF (rcur_Bytes_err W0 _ c p cap l k (some 1) 4 W26 hO hl (by omega) (by omega) (by omega) rfl) ?_
  clear hF; rintro _ W27 a ⟨rfl, hk⟩ hF; replace hO := hk; clear hk
  refine Vp hF (.slice none 0 0) ?_; clear hF; intro a hF
  refine L_nil ?_
  refine hK51 _ _ ?_
  refine wp_seq_k fun K52 hK52 => ?_
  refine wp_seq_k fun K53 hK53 => ?_
  refine wp_region_lit ?_
  refine Vp hF (.pointer (some ⟨c, 0, none⟩)) ?_; clear hF; intro a hF
  refine Vp hF (.pointer (some ⟨c, 0, none⟩)) ?_; clear hF; intro a hF
  refine Vp hF (.pointer (some ⟨c, 2, none⟩)) ?_; clear hF; intro a hF
  refine Vr hF (.int .i64 ((nE (some 1)))) (x_load (p := .pointer (some ⟨c, 2, none⟩)) rfl (by kernel_rfl) (run_load1 (by kernel_rfl) ((hO.cell List.mem_cons_self).trans (by kernel_rfl)))) ?_; clear hF; intro a hF
  refine Vr hF (.bool true) (x_bool (x := !(nE (some 1) == 0)) (nE_ne (some 1)) (by kernel_rfl)) ?_; clear hF; intro a hF
  refine L_nil ?_
  refine hK53 _ _ ?_
  refine cond_t hF (by kernel_rfl) (by kernel_rfl) ?_
  refine wp_seq_k fun K54 hK54 => ?_
  refine wp_region_lit ?_
  refine Vr hF (ipV noIp) (x_load (p := .pointer (some ⟨b2, 0, none⟩)) rfl (by kernel_rfl) (run_loadA (k := 17) (by kernel_rfl) (by kernel_rfl) (hO.blk (List.mem_cons_of_mem _ List.mem_cons_self)) (by kernel_rfl) (by kernel_rfl))) ?_; clear hF; intro a hF
  obtain ⟨W28, hst, hO1⟩ := run_storeAt (P := Tryz.prog) (k := 17) (T := 33) (off := 0) (v := ipV noIp) (cs := #[.bool false, .int .u8 0, .int .u8 0, .int .u8 0, .int .u8 0, .int .u8 0, .int .u8 0, .int .u8 0, .int .u8 0, .int .u8 0, .int .u8 0, .int .u8 0, .int .u8 0, .int .u8 0, .int .u8 0, .int .u8 0, .int .u8 0]) (cs' := (ipL noIp).toArray) hO (by kernel_rfl) (by kernel_rfl) (by kernel_rfl) (Nat.le_of_ble_eq_true (by kernel_rfl)) (by kernel_rfl) (.tail (.tail (.head _)))
  refine L_skip hF (by kernel_rfl) (by kernel_rfl) (x_store (p := .pointer (some ⟨b1, 0, none⟩)) (v := ipV noIp) rfl (by kernel_rfl) (by kernel_rfl) hst) (by kernel_rfl) ?_
  clear hst hF; intro a hF; replace hO := hO1; clear hO1
  refine L_nil ?_
  refine hK54 _ _ ?_
  refine wp_ret ?_
  refine then_ret ?_
  refine ret1 hF (v := ipV noIp) rfl (resC (ad := ⟨b1, 0, none⟩) (by kernel_rfl) (run_loadA (k := 17) (by kernel_rfl) (by kernel_rfl) (hO.blk (List.mem_cons_of_mem _ (List.mem_cons_of_mem _ List.mem_cons_self))) (by kernel_rfl) (by kernel_rfl))) (by have hr : readIp l k = (noIp, k, (some 1)) := (by first | exact readIp_short (by assumption) | exact readIp_kind (by assumption) (by assumption) (by assumption) | exact readIp_4s (by assumption) (by assumption) (by assumption) | exact readIp_4 (by assumption) (by assumption) (by assumption) | exact readIp_6s (by assumption) (by assumption) (by assumption) | exact readIp_6 (by assumption) (by assumption) (by assumption) | (exfalso; omega)); rw [hr]; exact ⟨rfl, hO.sub (.cons_cons _ (.cons _ (.cons _ (List.Sublist.refl _))))⟩) .ret (.inl rfl)

set_option maxRecDepth 20000 in
theorem ref02_Read_err (W0 : World) (L : List Chunk) (c : Nat) (p : Option Addr) (cap : Nat) (l : List UInt8) (k : Nat) (e : Option Nat) (W : World) (hO : Own W0 noX (.blk c (.cells #[.slice p l.length cap, .int .i64 ((k : Int)), .int .i64 ((nE e))] 52 (0, 0)) :: L) W) (hl : SlAt W0 p (l.flatMap u8L)) (hcap : l.length ≤ cap) (hk : k ≤ l.length) (hsz : l.length ≤ 1000000) (he : e.isSome = true) : Ret Tryz.prog 49 #[.pointer (some ⟨c, 0, none⟩)] W fun v W' => v = ipV noIp ∧ Own W0 noX (.blk c (.cells #[.slice p l.length cap, .int .i64 ((k : Int)), .int .i64 ((nE e))] 52 (0, 0)) :: L) W' := by
 refine enter Tryz.func49 rfl (n := 45) rfl (by kernel_rfl) (E0 := [(0, .pointer (some ⟨c, 0, none⟩))]) (by kernel_rfl) ?_
 intro a hF; have hO := hO
 refine wp_seq_k fun K1 hK1 => ?_
 refine wp_region_lit ?_
 refine L_new hF hO (by kernel_rfl) (by kernel_rfl) (vf := fun b => .pointer (some ⟨b, 0, none⟩)) (ob := .cells #[.bool false, .int .u8 0, .int .u8 0, .int .u8 0, .int .u8 0, .int .u8 0, .int .u8 0, .int .u8 0, .int .u8 0, .int .u8 0, .int .u8 0, .int .u8 0, .int .u8 0, .int .u8 0, .int .u8 0, .int .u8 0, .int .u8 0] 33) (by kernel_rfl) (by kernel_rfl) ?_
 clear hF hO; intro b1 W1 a hO hF
 refine L_nil ?_
 refine hK1 _ _ ?_
 refine wp_seq_k fun K2 hK2 => ?_
 refine wp_region_lit ?_
 refine Vp hF (.agg #[.bool false, .int .u8 0, .int .u8 0, .int .u8 0, .int .u8 0, .int .u8 0, .int .u8 0, .int .u8 0, .int .u8 0, .int .u8 0, .int .u8 0, .int .u8 0, .int .u8 0, .int .u8 0, .int .u8 0, .int .u8 0, .int .u8 0]) ?_; clear hF; intro a hF
 refine L_new hF hO (by kernel_rfl) (by kernel_rfl) (vf := fun b => .pointer (some ⟨b, 0, none⟩)) (ob := .cells #[.bool false, .int .u8 0, .int .u8 0, .int .u8 0, .int .u8 0, .int .u8 0, .int .u8 0, .int .u8 0, .int .u8 0, .int .u8 0, .int .u8 0, .int .u8 0, .int .u8 0, .int .u8 0, .int .u8 0, .int .u8 0, .int .u8 0] 33) (by kernel_rfl) (by kernel_rfl) ?_
 clear hF hO; intro b2 W2 a hO hF
 obtain ⟨W3, hst, hO1⟩ := run_storeAt (P := Tryz.prog) (k := 17) (T := 33) (off := 0) (v := .agg #[.bool false, .int .u8 0, .int .u8 0, .int .u8 0, .int .u8 0, .int .u8 0, .int .u8 0, .int .u8 0, .int .u8 0, .int .u8 0, .int .u8 0, .int .u8 0, .int .u8 0, .int .u8 0, .int .u8 0, .int .u8 0, .int .u8 0]) (cs := #[.bool false, .int .u8 0, .int .u8 0, .int .u8 0, .int .u8 0, .int .u8 0, .int .u8 0, .int .u8 0, .int .u8 0, .int .u8 0, .int .u8 0, .int .u8 0, .int .u8 0, .int .u8 0, .int .u8 0, .int .u8 0, .int .u8 0]) (cs' := #[.bool false, .int .u8 0, .int .u8 0, .int .u8 0, .int .u8 0, .int .u8 0, .int .u8 0, .int .u8 0, .int .u8 0, .int .u8 0, .int .u8 0, .int .u8 0, .int .u8 0, .int .u8 0, .int .u8 0, .int .u8 0, .int .u8 0]) hO (by kernel_rfl) (by kernel_rfl) (by kernel_rfl) (Nat.le_of_ble_eq_true (by kernel_rfl)) (by kernel_rfl) (.head _)
 refine L_skip hF (by kernel_rfl) (by kernel_rfl) (x_store (p := .pointer (some ⟨b2, 0, none⟩)) (v := .agg #[.bool false, .int .u8 0, .int .u8 0, .int .u8 0, .int .u8 0, .int .u8 0, .int .u8 0, .int .u8 0, .int .u8 0, .int .u8 0, .int .u8 0, .int .u8 0, .int .u8 0, .int .u8 0, .int .u8 0, .int .u8 0, .int .u8 0]) rfl (by kernel_rfl) (by kernel_rfl) hst) (by kernel_rfl) ?_
 clear hst hF; intro a hF; replace hO := hO1; clear hO1
 refine L_nil ?_
 refine hK2 _ _ ?_
 refine wp_seq_k fun K3 hK3 => ?_
 refine wp_region_lit ?_
 refine Vp hF (.pointer (some ⟨c, 0, none⟩)) ?_; clear hF; intro a hF
 replace hO := hO.front (.tail (.tail (.head _)))
 refine Lc hF (rcur_Num1_err W0 _ c p cap l k e W3 hO hl (by omega) (by omega) (by omega) (by assumption)) ?_
 clear hF; rintro _ W4 a ⟨rfl, hk⟩ hF; replace hO := hk; clear hk
 refine Vp hF (.int .i64 0) ?_; clear hF; intro a hF
 refine L_nil ?_
 refine hK3 _ _ ?_
 refine wp_seq_k fun K4 hK4 => ?_
 refine wp_seq_k fun K5 hK5 => ?_
 refine wp_region_lit ?_
 refine Vp hF (.int .i64 0) ?_; clear hF; intro a hF
 refine Vp hF (.bool true) ?_; clear hF; intro a hF
 refine Vp hF (.bool true) ?_; clear hF; intro a hF
 refine Vp hF (.int .i64 0) ?_; clear hF; intro a hF
 refine Vp hF (.bool true) ?_; clear hF; intro a hF
 refine Vp hF (.bool true) ?_; clear hF; intro a hF
 refine Vp hF (.bool true) ?_; clear hF; intro a hF
 refine Vp hF (.pointer (some ⟨c, 0, none⟩)) ?_; clear hF; intro a hF
 refine Vp hF (.pointer (some ⟨c, 0, none⟩)) ?_; clear hF; intro a hF
 refine Vp hF (.pointer (some ⟨c, 2, none⟩)) ?_; clear hF; intro a hF
 refine Vr hF (.int .i64 ((nE e))) (x_load (p := .pointer (some ⟨c, 2, none⟩)) rfl (by kernel_rfl) (run_load1 (by kernel_rfl) ((hO.cell List.mem_cons_self).trans (by kernel_rfl)))) ?_; clear hF; intro a hF
 refine Vr hF (.bool (!e.isSome)) (x_bool (x := (nE e == 0)) (nE_eq e) (by kernel_rfl)) ?_; clear hF; intro a hF
 refine Vp hF (.bool (!e.isSome)) ?_; clear hF; intro a hF
 refine L_nil ?_
 refine hK5 _ _ ?_
 replace hF := hF.know (d := 22) (v' := .bool false) (by kernel_rfl) (congrArg Value.bool (notF he))
 refine cond_f hF (by kernel_rfl) (by kernel_rfl) ?_
 refine wp_skip ?_
 refine hK4 _ _ ?_
 refine wp_seq_k fun K6 hK6 => ?_
 refine wp_region_lit ?_
 refine Vp hF (.int .i64 4) ?_; clear hF; intro a hF
 refine L_nil ?_
 refine hK6 _ _ ?_
 refine wp_seq_k fun K7 hK7 => ?_
 refine wp_seq_k fun K8 hK8 => ?_
 refine wp_region_lit ?_
 refine Vp hF (.int .i64 0) ?_; clear hF; intro a hF
 refine Vp hF (.bool false) ?_; clear hF; intro a hF
 refine L_nil ?_
 refine hK8 _ _ ?_
 refine cond_f hF (by kernel_rfl) (by kernel_rfl) ?_
 refine wp_skip ?_
 refine hK7 _ _ ?_
 refine wp_seq_k fun K9 hK9 => ?_
 refine wp_region_lit ?_
 refine Vp hF (.pointer (some ⟨c, 0, none⟩)) ?_; clear hF; intro a hF
 refine Vp hF (.int .i64 4) ?_; clear hF; intro a hF
 refine Lc hF (rcur_Bytes_err W0 _ c p cap l k e 4 W4 hO hl (by omega) (by omega) (by omega) (by assumption)) ?_
 clear hF; rintro _ W5 a ⟨rfl, hk⟩ hF; replace hO := hk; clear hk
 refine Vp hF (.slice none 0 0) ?_; clear hF; intro a hF
 refine L_nil ?_
 refine hK9 _ _ ?_
 refine wp_seq_k fun K10 hK10 => ?_
 refine wp_seq_k fun K11 hK11 => ?_
 refine wp_region_lit ?_
 refine Vp hF (.pointer (some ⟨c, 0, none⟩)) ?_; clear hF; intro a hF
 refine Vp hF (.pointer (some ⟨c, 0, none⟩)) ?_; clear hF; intro a hF
 refine Vp hF (.pointer (some ⟨c, 2, none⟩)) ?_; clear hF; intro a hF
 refine Vr hF (.int .i64 ((nE e))) (x_load (p := .pointer (some ⟨c, 2, none⟩)) rfl (by kernel_rfl) (run_load1 (by kernel_rfl) ((hO.cell List.mem_cons_self).trans (by kernel_rfl)))) ?_; clear hF; intro a hF
 refine Vr hF (.bool e.isSome) (x_bool (x := !(nE e == 0)) (nE_ne e) (by kernel_rfl)) ?_; clear hF; intro a hF
 refine L_nil ?_
 refine hK11 _ _ ?_
 replace hF := hF.know (d := 35) (v' := .bool true) (by kernel_rfl) (congrArg Value.bool he)
 refine cond_t hF (by kernel_rfl) (by kernel_rfl) ?_
 refine wp_seq_k fun K12 hK12 => ?_
 refine wp_region_lit ?_
 refine Vr hF (ipV noIp) (x_load (p := .pointer (some ⟨b2, 0, none⟩)) rfl (by kernel_rfl) (run_loadA (k := 17) (by kernel_rfl) (by kernel_rfl) (hO.blk (List.mem_cons_of_mem _ List.mem_cons_self)) (by kernel_rfl) (by kernel_rfl))) ?_; clear hF; intro a hF
 obtain ⟨W6, hst, hO1⟩ := run_storeAt (P := Tryz.prog) (k := 17) (T := 33) (off := 0) (v := ipV noIp) (cs := #[.bool false, .int .u8 0, .int .u8 0, .int .u8 0, .int .u8 0, .int .u8 0, .int .u8 0, .int .u8 0, .int .u8 0, .int .u8 0, .int .u8 0, .int .u8 0, .int .u8 0, .int .u8 0, .int .u8 0, .int .u8 0, .int .u8 0]) (cs' := (ipL noIp).toArray) hO (by kernel_rfl) (by kernel_rfl) (by kernel_rfl) (Nat.le_of_ble_eq_true (by kernel_rfl)) (by kernel_rfl) (.tail (.tail (.head _)))
 refine L_skip hF (by kernel_rfl) (by kernel_rfl) (x_store (p := .pointer (some ⟨b1, 0, none⟩)) (v := ipV noIp) rfl (by kernel_rfl) (by kernel_rfl) hst) (by kernel_rfl) ?_
 clear hst hF; intro a hF; replace hO := hO1; clear hO1
 refine L_nil ?_
 refine hK12 _ _ ?_
 refine wp_ret ?_
 refine then_ret ?_
 refine ret1 hF (v := ipV noIp) rfl (resC (ad := ⟨b1, 0, none⟩) (by kernel_rfl) (run_loadA (k := 17) (by kernel_rfl) (by kernel_rfl) (hO.blk (List.mem_cons_of_mem _ (List.mem_cons_of_mem _ List.mem_cons_self))) (by kernel_rfl) (by kernel_rfl))) (by refine ⟨?_, hO.sub (.cons_cons _ (.cons _ (.cons _ (List.Sublist.refl _))))⟩; first | rfl | (simp [*]; done)) .ret (.inl rfl)

end Go.Proofs.YthellfigmpjhlaaGreatDoor
