import Derived.Test.YthellfigmpjhlaaGreatDoorCidrW
namespace Go.Proofs.YthellfigmpjhlaaGreatDoor
open Go Go.RowKit
set_option linter.unusedVariables false
set_option linter.unusedSimpArgs false
abbrev zFC03 : Array Value := #[.bool false, .int .u8 0, .int .u8 0, .int .u8 0, .int .u8 0, .int .u8 0, .int .u8 0, .int .u8 0, .int .u8 0, .int .u8 0, .int .u8 0, .int .u8 0, .int .u8 0, .int .u8 0, .int .u8 0, .int .u8 0, .int .u8 0]
abbrev zPC03 : Array Value := #[.bool false, .int .u8 0, .int .u8 0, .int .u8 0, .int .u8 0, .int .u8 0, .int .u8 0, .int .u8 0, .int .u8 0, .int .u8 0, .int .u8 0, .int .u8 0, .int .u8 0, .int .u8 0, .int .u8 0, .int .u8 0, .int .u8 0, .int .i64 0]
set_option maxRecDepth 20000 in
theorem cidr_Parse_n (I : List Nat) (ea : Nat → Addr) (s : ByteArray) (W : World) (hG : LibW W) (hE : Errs I ea W) (h3 : I.contains 3 = true) (h0 : I.contains 0 = true) (h7 : I.contains 7 = true) (hs : s.size ≤ 1000000) (hp : parseIp (slH s) = none) : Ret Tryz.prog 51 #[.string s] W fun v W' => v = retCd ea (parseCd s) ∧ Own W noX [] W' := by
 refine enter Tryz.func51 rfl (n := 72) rfl (by kernel_rfl) (E0 := [(0, .string s)]) (by kernel_rfl) ?_
 intro a hF; have hO := Own.start W noX
 refine wp_seq_k fun K1 hK1 => ?_
 refine wp_region_lit ?_
 refine L_new hF hO (by kernel_rfl) (by kernel_rfl) (vf := fun b => .pointer (some ⟨b, 0, none⟩)) (ob := .cells zPC03 68) (by kernel_rfl) (by kernel_rfl) ?_
 clear hF hO; intro b1 W1 a hO hF
 refine Vp hF (.nilIface) ?_; clear hF; intro a hF
 refine L_nil ?_
 refine hK1 _ _ ?_
 refine wp_seq_k fun K2 hK2 => ?_
 refine wp_region_lit ?_
 refine Vp hF (.string s) ?_; clear hF; intro a hF
 refine Lc hF (slash_ret s W1 (hG.own hO) (by omega)) ?_
 clear hF; rintro _ W2 a ⟨rfl, hk⟩ hF
 replace hO := hO.call0 hk; clear hk
 refine Vp hF (.tuple #[.string (slH s), .string (slT s), .bool (slY s)]) ?_; clear hF; intro a hF
 refine Vp hF (.string (slH s)) ?_; clear hF; intro a hF
 refine Vp hF (.string (slT s)) ?_; clear hF; intro a hF
 refine Vp hF (.bool (slY s)) ?_; clear hF; intro a hF
 refine Vp hF (.string (slH s)) ?_; clear hF; intro a hF
 refine Vp hF (.string (slT s)) ?_; clear hF; intro a hF
 refine Vp hF (.bool (slY s)) ?_; clear hF; intro a hF
 refine L_nil ?_
 refine hK2 _ _ ?_
 refine wp_seq_k fun K3 hK3 => ?_
 refine wp_region_lit ?_
 refine Vp hF (.string (slH s)) ?_; clear hF; intro a hF
 refine Lc hF ((addr_Parse I ea (slH s) W2 (hG.own hO) (hE.own hO) h3 (by have := slH_size s; omega)).mono fun v W' h => (⟨by rw [h.1, hp]; rfl, h.2⟩ : v = .tuple #[ipV noIp, errV ea 3] ∧ Own W2 noX [] W')) ?_
 clear hF; rintro _ W3 a ⟨rfl, hk⟩ hF
 replace hO := hO.call0 hk; clear hk
 refine Vp hF (.tuple #[ipV noIp, errV ea 3]) ?_; clear hF; intro a hF
 refine Vp hF (ipV noIp) ?_; clear hF; intro a hF
 refine Vp hF (errV ea 3) ?_; clear hF; intro a hF
 refine L_new hF hO (by kernel_rfl) (by kernel_rfl) (vf := fun b => .pointer (some ⟨b, 0, none⟩)) (ob := .cells zFC03 33) (by kernel_rfl) (by kernel_rfl) ?_
 clear hF hO; intro b2 W4 a hO hF
 obtain ⟨W5, hst, hO1⟩ := run_storeAt (P := Tryz.prog) (k := 17) (T := 33) (off := 0) (v := ipV noIp) (cs := zFC03) (cs' := (ipL noIp).toArray) hO (by kernel_rfl) (by kernel_rfl) (by kernel_rfl) (Nat.le_of_ble_eq_true (by kernel_rfl)) (by kernel_rfl) (.head _)
 refine L_skip hF (by kernel_rfl) (by kernel_rfl) (x_store (p := .pointer (some ⟨b2, 0, none⟩)) (v := ipV noIp) rfl (by kernel_rfl) (by kernel_rfl) hst) (by kernel_rfl) ?_
 clear hst hF; intro a hF; replace hO := hO1; clear hO1
 refine Vp hF (errV ea 3) ?_; clear hF; intro a hF
 refine L_nil ?_
 refine hK3 _ _ ?_
 refine wp_seq_k fun K4 hK4 => ?_
 refine wp_region_lit ?_
 refine Vp hF (.string (slT s)) ?_; clear hF; intro a hF
 refine Lc hF (atoi_ret (slT s) W5 (hG.own hO) (by have := slT_size s; omega)) ?_
 clear hF; rintro _ W6 a ⟨te1, pe1, rfl, hk⟩ hF
 replace hO := hO.call0 hk; clear hk
 refine Vp hF (.tuple #[.int .i64 ((atoiN (slT s))), (if atoiOk (slT s) then .nilIface else .iface te1 pe1)]) ?_; clear hF; intro a hF
 refine Vp hF (.int .i64 ((atoiN (slT s)))) ?_; clear hF; intro a hF
 refine Vp hF ((if atoiOk (slT s) then .nilIface else .iface te1 pe1)) ?_; clear hF; intro a hF
 refine Vp hF (.int .i64 ((atoiN (slT s)))) ?_; clear hF; intro a hF
 refine Vp hF ((if atoiOk (slT s) then .nilIface else .iface te1 pe1)) ?_; clear hF; intro a hF
 refine L_nil ?_
 refine hK4 _ _ ?_
 refine wp_seq_k fun K5 hK5 => ?_
 refine wp_block ?_
 refine wp_seq_k fun K6 hK6 => ?_
 refine wp_region_lit ?_
 refine Vp hF (.bool (slY s)) ?_; clear hF; intro a hF
 refine Vp hF (.bool (!(slY s))) ?_; clear hF; intro a hF
 refine Vp hF (.bool (!(slY s))) ?_; clear hF; intro a hF
 cases q1 : (slY s : Bool)
 ·
  replace hF := hF.know (d := 30) (v' := .bool true) (by kernel_rfl) (congrArg Value.bool (notT q1))
  refine Lo hF ?_; clear hF; intro a hF
  refine Lo hF ?_; clear hF; intro a hF
  refine Vp hF (.bool true) ?_; clear hF; intro a hF
  refine Vp hF (.bool true) ?_; clear hF; intro a hF
  refine Lo hF ?_; clear hF; intro a hF
  refine Lo hF ?_; clear hF; intro a hF
  refine Vp hF (.bool true) ?_; clear hF; intro a hF
  refine Vp hF (.bool true) ?_; clear hF; intro a hF
  refine Lo hF ?_; clear hF; intro a hF
  refine Lo hF ?_; clear hF; intro a hF
  refine Vp hF (.bool true) ?_; clear hF; intro a hF
  refine Vp hF (.bool true) ?_; clear hF; intro a hF
  refine Lo hF ?_; clear hF; intro a hF
  refine Lo hF ?_; clear hF; intro a hF
  refine Vp hF (.bool true) ?_; clear hF; intro a hF
  refine Vp hF (.bool true) ?_; clear hF; intro a hF
  refine Lo hF ?_; clear hF; intro a hF
  refine Lo hF ?_; clear hF; intro a hF
  refine Lo hF ?_; clear hF; intro a hF
  refine Lo hF ?_; clear hF; intro a hF
  refine Vp hF (.bool true) ?_; clear hF; intro a hF
  refine Vp hF (.bool true) ?_; clear hF; intro a hF
  refine L_nil ?_
  refine hK6 _ _ ?_
  refine cond_t hF (by kernel_rfl) (by kernel_rfl) ?_
  refine wp_seq_k fun K7 hK7 => ?_
  refine A_start (fun Wx => Own W noX [.blk b2 (.cells (ipL noIp).toArray 33 (0, 0))] Wx) (by kernel_rfl) ?_
  replace hO := hO.drewN 1
  generalize hWd : ({ W6 with drawn := W6.drawn + 1 } : World) = W6_d at hO ⊢; clear hWd
  have hS := hO.sub (.cons_cons _ (List.nil_sublist _))
  refine Tk 0 rfl hF (.agg zPC03) (fun Wx _ => by kernel_rfl) hS ?_; clear hF; intro a hF
  refine Tk 1 rfl hF (errV ea 3) (fun Wx hO => x_load (p := .pointer (some ⟨4, 0, none⟩)) rfl (by kernel_rfl) (hE.load hO 3 4 h3 (by kernel_rfl))) hS ?_; clear hF; intro a hF
  refine A_one (i := 2) (listed' := #[true, true, true, false]) (by kernel_rfl) rfl (by kernel_rfl) ?_
  obtain ⟨W7, hst, hO1⟩ := run_storeAt (P := Tryz.prog) (k := 18) (T := 68) (off := 0) (v := .agg zPC03) (cs := zPC03) (cs' := zPC03) hO (by kernel_rfl) (by kernel_rfl) (by kernel_rfl) (Nat.le_of_ble_eq_true (by kernel_rfl)) (by kernel_rfl) (.tail (.head _))
  refine OpK.skip hF (by kernel_rfl) (by kernel_rfl) (x_store (p := .pointer (some ⟨b1, 0, none⟩)) (v := .agg zPC03) rfl (by kernel_rfl) (by kernel_rfl) hst) (by kernel_rfl) ?_
  clear hst hF; intro a hF; replace hO := hO1; clear hO1
  refine ⟨hO.sub (.cons_cons _ (List.nil_sublist _)), ?_⟩
  have hS := hO.sub (.cons_cons _ (List.nil_sublist _))
  refine Tk 3 rfl hF (errV ea 3) (fun Wx _ => by kernel_rfl) hS ?_; clear hF; intro a hF
  refine A_done (by kernel_rfl) ?_
  refine hK7 _ _ ?_
  refine wp_ret ?_
  refine block_ret ?_
  refine then_ret ?_
  refine ret2 hF (v := .agg zPC03) (u := errV ea 3) rfl (resC (ad := ⟨b1, 0, none⟩) (by kernel_rfl) (run_loadA (k := 18) (by kernel_rfl) (by kernel_rfl) (hO.blk (List.mem_cons_of_mem _ List.mem_cons_self)) (by kernel_rfl) (by kernel_rfl))) (resT (by kernel_rfl)) (by refine ⟨?_, hO.nil⟩; first | (rw [parseCd_none hp]; rfl) | (rw [parseCd_no hp (.inl (by assumption))]; rfl) | (rw [parseCd_no hp (.inr (numOk_no (.inl (by assumption))))]; rfl) | (rw [parseCd_no hp (.inr (numOk_no (.inr (.inl (by assumption)))))]; rfl) | (rw [parseCd_no hp (.inr (numOk_no (.inr (.inr (.inl (by assumption))))))]; rfl) | (rw [parseCd_no hp (.inr (numOk_no (.inr (.inr (.inr (by assumption))))))]; rfl) | (rw [parseCd_yes hp (by assumption) (numOk_yes (by assumption) (by assumption) (by assumption) (by assumption))]; first | (rw [if_neg (by simp [*])]; rfl) | (rw [if_pos (by assumption), if_neg (by assumption)]; rfl) | (rw [if_pos (by assumption), if_pos (by assumption)]; rfl))) .ret (.inl rfl)
 ·
  replace hF := hF.know (d := 30) (v' := .bool false) (by kernel_rfl) (congrArg Value.bool (notF q1))
  refine Vp hF (errV ea 3) ?_; clear hF; intro a hF
  refine Vp hF (.bool true) ?_; clear hF; intro a hF
  refine Vp hF (.bool true) ?_; clear hF; intro a hF
  refine Vp hF (.bool true) ?_; clear hF; intro a hF
  refine Lo hF ?_; clear hF; intro a hF
  refine Lo hF ?_; clear hF; intro a hF
  refine Vp hF (.bool true) ?_; clear hF; intro a hF
  refine Vp hF (.bool true) ?_; clear hF; intro a hF
  refine Lo hF ?_; clear hF; intro a hF
  refine Lo hF ?_; clear hF; intro a hF
  refine Vp hF (.bool true) ?_; clear hF; intro a hF
  refine Vp hF (.bool true) ?_; clear hF; intro a hF
  refine Lo hF ?_; clear hF; intro a hF
  refine Lo hF ?_; clear hF; intro a hF
  refine Vp hF (.bool true) ?_; clear hF; intro a hF
  refine Vp hF (.bool true) ?_; clear hF; intro a hF
  refine Lo hF ?_; clear hF; intro a hF
  refine Lo hF ?_; clear hF; intro a hF
  refine Lo hF ?_; clear hF; intro a hF
  refine Lo hF ?_; clear hF; intro a hF
  refine Vp hF (.bool true) ?_; clear hF; intro a hF
  refine Vp hF (.bool true) ?_; clear hF; intro a hF
  refine L_nil ?_
  refine hK6 _ _ ?_
  refine cond_t hF (by kernel_rfl) (by kernel_rfl) ?_
  refine wp_seq_k fun K8 hK8 => ?_
  refine A_start (fun Wx => Own W noX [.blk b2 (.cells (ipL noIp).toArray 33 (0, 0))] Wx) (by kernel_rfl) ?_
  replace hO := hO.drewN 1
  generalize hWd : ({ W6 with drawn := W6.drawn + 1 } : World) = W6_d at hO ⊢; clear hWd
  have hS := hO.sub (.cons_cons _ (List.nil_sublist _))
  refine Tk 0 rfl hF (.agg zPC03) (fun Wx _ => by kernel_rfl) hS ?_; clear hF; intro a hF
  refine Tk 1 rfl hF (errV ea 3) (fun Wx hO => x_load (p := .pointer (some ⟨4, 0, none⟩)) rfl (by kernel_rfl) (hE.load hO 3 4 h3 (by kernel_rfl))) hS ?_; clear hF; intro a hF
  refine A_one (i := 2) (listed' := #[true, true, true, false]) (by kernel_rfl) rfl (by kernel_rfl) ?_
  obtain ⟨W8, hst, hO1⟩ := run_storeAt (P := Tryz.prog) (k := 18) (T := 68) (off := 0) (v := .agg zPC03) (cs := zPC03) (cs' := zPC03) hO (by kernel_rfl) (by kernel_rfl) (by kernel_rfl) (Nat.le_of_ble_eq_true (by kernel_rfl)) (by kernel_rfl) (.tail (.head _))
  refine OpK.skip hF (by kernel_rfl) (by kernel_rfl) (x_store (p := .pointer (some ⟨b1, 0, none⟩)) (v := .agg zPC03) rfl (by kernel_rfl) (by kernel_rfl) hst) (by kernel_rfl) ?_
  clear hst hF; intro a hF; replace hO := hO1; clear hO1
  refine ⟨hO.sub (.cons_cons _ (List.nil_sublist _)), ?_⟩
  have hS := hO.sub (.cons_cons _ (List.nil_sublist _))
  refine Tk 3 rfl hF (errV ea 3) (fun Wx _ => by kernel_rfl) hS ?_; clear hF; intro a hF
  refine A_done (by kernel_rfl) ?_
  refine hK8 _ _ ?_
  refine wp_ret ?_
  refine block_ret ?_
  refine then_ret ?_
  refine ret2 hF (v := .agg zPC03) (u := errV ea 3) rfl (resC (ad := ⟨b1, 0, none⟩) (by kernel_rfl) (run_loadA (k := 18) (by kernel_rfl) (by kernel_rfl) (hO.blk (List.mem_cons_of_mem _ List.mem_cons_self)) (by kernel_rfl) (by kernel_rfl))) (resT (by kernel_rfl)) (by refine ⟨?_, hO.nil⟩; first | (rw [parseCd_none hp]; rfl) | (rw [parseCd_no hp (.inl (by assumption))]; rfl) | (rw [parseCd_no hp (.inr (numOk_no (.inl (by assumption))))]; rfl) | (rw [parseCd_no hp (.inr (numOk_no (.inr (.inl (by assumption)))))]; rfl) | (rw [parseCd_no hp (.inr (numOk_no (.inr (.inr (.inl (by assumption))))))]; rfl) | (rw [parseCd_no hp (.inr (numOk_no (.inr (.inr (.inr (by assumption))))))]; rfl) | (rw [parseCd_yes hp (by assumption) (numOk_yes (by assumption) (by assumption) (by assumption) (by assumption))]; first | (rw [if_neg (by simp [*])]; rfl) | (rw [if_pos (by assumption), if_neg (by assumption)]; rfl) | (rw [if_pos (by assumption), if_pos (by assumption)]; rfl))) .ret (.inl rfl)

set_option maxRecDepth 20000 in
theorem cidr_Parse_s (I : List Nat) (ea : Nat → Addr) (s : ByteArray) (x0 : Ip) (W : World) (hG : LibW W) (hE : Errs I ea W) (h3 : I.contains 3 = true) (h0 : I.contains 0 = true) (h7 : I.contains 7 = true) (hs : s.size ≤ 1000000) (hp : parseIp (slH s) = some x0) : Ret Tryz.prog 51 #[.string s] W fun v W' => v = retCd ea (parseCd s) ∧ Own W noX [] W' := by
 refine enter Tryz.func51 rfl (n := 72) rfl (by kernel_rfl) (E0 := [(0, .string s)]) (by kernel_rfl) ?_
 intro a hF; have hO := Own.start W noX
 refine wp_seq_k fun K1 hK1 => ?_
 refine wp_region_lit ?_
 refine L_new hF hO (by kernel_rfl) (by kernel_rfl) (vf := fun b => .pointer (some ⟨b, 0, none⟩)) (ob := .cells zPC03 68) (by kernel_rfl) (by kernel_rfl) ?_
 clear hF hO; intro b1 W1 a hO hF
 refine Vp hF (.nilIface) ?_; clear hF; intro a hF
 refine L_nil ?_
 refine hK1 _ _ ?_
 refine wp_seq_k fun K2 hK2 => ?_
 refine wp_region_lit ?_
 refine Vp hF (.string s) ?_; clear hF; intro a hF
 refine Lc hF (slash_ret s W1 (hG.own hO) (by omega)) ?_
 clear hF; rintro _ W2 a ⟨rfl, hk⟩ hF
 replace hO := hO.call0 hk; clear hk
 refine Vp hF (.tuple #[.string (slH s), .string (slT s), .bool (slY s)]) ?_; clear hF; intro a hF
 refine Vp hF (.string (slH s)) ?_; clear hF; intro a hF
 refine Vp hF (.string (slT s)) ?_; clear hF; intro a hF
 refine Vp hF (.bool (slY s)) ?_; clear hF; intro a hF
 refine Vp hF (.string (slH s)) ?_; clear hF; intro a hF
 refine Vp hF (.string (slT s)) ?_; clear hF; intro a hF
 refine Vp hF (.bool (slY s)) ?_; clear hF; intro a hF
 refine L_nil ?_
 refine hK2 _ _ ?_
 refine wp_seq_k fun K3 hK3 => ?_
 refine wp_region_lit ?_
 refine Vp hF (.string (slH s)) ?_; clear hF; intro a hF
 refine Lc hF ((addr_Parse I ea (slH s) W2 (hG.own hO) (hE.own hO) h3 (by have := slH_size s; omega)).mono fun v W' h => (⟨by rw [h.1, hp]; rfl, h.2⟩ : v = .tuple #[ipV x0, .nilIface] ∧ Own W2 noX [] W')) ?_
 clear hF; rintro _ W3 a ⟨rfl, hk⟩ hF
 replace hO := hO.call0 hk; clear hk
 refine Vp hF (.tuple #[ipV x0, .nilIface]) ?_; clear hF; intro a hF
 refine Vp hF (ipV x0) ?_; clear hF; intro a hF
 refine Vp hF (.nilIface) ?_; clear hF; intro a hF
 refine L_new hF hO (by kernel_rfl) (by kernel_rfl) (vf := fun b => .pointer (some ⟨b, 0, none⟩)) (ob := .cells zFC03 33) (by kernel_rfl) (by kernel_rfl) ?_
 clear hF hO; intro b2 W4 a hO hF
 obtain ⟨W5, hst, hO1⟩ := run_storeAt (P := Tryz.prog) (k := 17) (T := 33) (off := 0) (v := ipV x0) (cs := zFC03) (cs' := (ipL x0).toArray) hO (by kernel_rfl) (by kernel_rfl) (by kernel_rfl) (Nat.le_of_ble_eq_true (by kernel_rfl)) (by kernel_rfl) (.head _)
 refine L_skip hF (by kernel_rfl) (by kernel_rfl) (x_store (p := .pointer (some ⟨b2, 0, none⟩)) (v := ipV x0) rfl (by kernel_rfl) (by kernel_rfl) hst) (by kernel_rfl) ?_
 clear hst hF; intro a hF; replace hO := hO1; clear hO1
 refine Vp hF (.nilIface) ?_; clear hF; intro a hF
 refine L_nil ?_
 refine hK3 _ _ ?_
 refine wp_seq_k fun K4 hK4 => ?_
 refine wp_region_lit ?_
 refine Vp hF (.string (slT s)) ?_; clear hF; intro a hF
 refine Lc hF (atoi_ret (slT s) W5 (hG.own hO) (by have := slT_size s; omega)) ?_
 clear hF; rintro _ W6 a ⟨te1, pe1, rfl, hk⟩ hF
 replace hO := hO.call0 hk; clear hk
 refine Vp hF (.tuple #[.int .i64 ((atoiN (slT s))), (if atoiOk (slT s) then .nilIface else .iface te1 pe1)]) ?_; clear hF; intro a hF
 refine Vp hF (.int .i64 ((atoiN (slT s)))) ?_; clear hF; intro a hF
 refine Vp hF ((if atoiOk (slT s) then .nilIface else .iface te1 pe1)) ?_; clear hF; intro a hF
 refine Vp hF (.int .i64 ((atoiN (slT s)))) ?_; clear hF; intro a hF
 refine Vp hF ((if atoiOk (slT s) then .nilIface else .iface te1 pe1)) ?_; clear hF; intro a hF
 refine L_nil ?_
 refine hK4 _ _ ?_
 refine wp_seq_k fun K5 hK5 => ?_
 refine wp_block ?_
 refine wp_seq_k fun K6 hK6 => ?_
 refine wp_region_lit ?_
 refine Vp hF (.bool (slY s)) ?_; clear hF; intro a hF
 refine Vp hF (.bool (!(slY s))) ?_; clear hF; intro a hF
 refine Vp hF (.bool (!(slY s))) ?_; clear hF; intro a hF
 cases q1 : (slY s : Bool)
 ·
  replace hF := hF.know (d := 30) (v' := .bool true) (by kernel_rfl) (congrArg Value.bool (notT q1))
  refine Lo hF ?_; clear hF; intro a hF
  refine Lo hF ?_; clear hF; intro a hF
  refine Vp hF (.bool true) ?_; clear hF; intro a hF
  refine Vp hF (.bool true) ?_; clear hF; intro a hF
  refine Lo hF ?_; clear hF; intro a hF
  refine Lo hF ?_; clear hF; intro a hF
  refine Vp hF (.bool true) ?_; clear hF; intro a hF
  refine Vp hF (.bool true) ?_; clear hF; intro a hF
  refine Lo hF ?_; clear hF; intro a hF
  refine Lo hF ?_; clear hF; intro a hF
  refine Vp hF (.bool true) ?_; clear hF; intro a hF
  refine Vp hF (.bool true) ?_; clear hF; intro a hF
  refine Lo hF ?_; clear hF; intro a hF
  refine Lo hF ?_; clear hF; intro a hF
  refine Vp hF (.bool true) ?_; clear hF; intro a hF
  refine Vp hF (.bool true) ?_; clear hF; intro a hF
  refine Lo hF ?_; clear hF; intro a hF
  refine Lo hF ?_; clear hF; intro a hF
  refine Lo hF ?_; clear hF; intro a hF
  refine Lo hF ?_; clear hF; intro a hF
  refine Vp hF (.bool true) ?_; clear hF; intro a hF
  refine Vp hF (.bool true) ?_; clear hF; intro a hF
  refine L_nil ?_
  refine hK6 _ _ ?_
  refine cond_t hF (by kernel_rfl) (by kernel_rfl) ?_
  refine wp_seq_k fun K7 hK7 => ?_
  refine A_start (fun Wx => Own W noX [.blk b2 (.cells (ipL x0).toArray 33 (0, 0))] Wx) (by kernel_rfl) ?_
  replace hO := hO.drewN 1
  generalize hWd : ({ W6 with drawn := W6.drawn + 1 } : World) = W6_d at hO ⊢; clear hWd
  have hS := hO.sub (.cons_cons _ (List.nil_sublist _))
  refine Tk 0 rfl hF (.agg zPC03) (fun Wx _ => by kernel_rfl) hS ?_; clear hF; intro a hF
  refine Tk 1 rfl hF (errV ea 3) (fun Wx hO => x_load (p := .pointer (some ⟨4, 0, none⟩)) rfl (by kernel_rfl) (hE.load hO 3 4 h3 (by kernel_rfl))) hS ?_; clear hF; intro a hF
  refine A_one (i := 2) (listed' := #[true, true, true, false]) (by kernel_rfl) rfl (by kernel_rfl) ?_
  obtain ⟨W7, hst, hO1⟩ := run_storeAt (P := Tryz.prog) (k := 18) (T := 68) (off := 0) (v := .agg zPC03) (cs := zPC03) (cs' := zPC03) hO (by kernel_rfl) (by kernel_rfl) (by kernel_rfl) (Nat.le_of_ble_eq_true (by kernel_rfl)) (by kernel_rfl) (.tail (.head _))
  refine OpK.skip hF (by kernel_rfl) (by kernel_rfl) (x_store (p := .pointer (some ⟨b1, 0, none⟩)) (v := .agg zPC03) rfl (by kernel_rfl) (by kernel_rfl) hst) (by kernel_rfl) ?_
  clear hst hF; intro a hF; replace hO := hO1; clear hO1
  refine ⟨hO.sub (.cons_cons _ (List.nil_sublist _)), ?_⟩
  have hS := hO.sub (.cons_cons _ (List.nil_sublist _))
  refine Tk 3 rfl hF (errV ea 3) (fun Wx _ => by kernel_rfl) hS ?_; clear hF; intro a hF
  refine A_done (by kernel_rfl) ?_
  refine hK7 _ _ ?_
  refine wp_ret ?_
  refine block_ret ?_
  refine then_ret ?_
  refine ret2 hF (v := .agg zPC03) (u := errV ea 3) rfl (resC (ad := ⟨b1, 0, none⟩) (by kernel_rfl) (run_loadA (k := 18) (by kernel_rfl) (by kernel_rfl) (hO.blk (List.mem_cons_of_mem _ List.mem_cons_self)) (by kernel_rfl) (by kernel_rfl))) (resT (by kernel_rfl)) (by refine ⟨?_, hO.nil⟩; first | (rw [parseCd_none hp]; rfl) | (rw [parseCd_no hp (.inl (by assumption))]; rfl) | (rw [parseCd_no hp (.inr (numOk_no (.inl (by assumption))))]; rfl) | (rw [parseCd_no hp (.inr (numOk_no (.inr (.inl (by assumption)))))]; rfl) | (rw [parseCd_no hp (.inr (numOk_no (.inr (.inr (.inl (by assumption))))))]; rfl) | (rw [parseCd_no hp (.inr (numOk_no (.inr (.inr (.inr (by assumption))))))]; rfl) | (rw [parseCd_yes hp (by assumption) (numOk_yes (by assumption) (by assumption) (by assumption) (by assumption))]; first | (rw [if_neg (by simp [*])]; rfl) | (rw [if_pos (by assumption), if_neg (by assumption)]; rfl) | (rw [if_pos (by assumption), if_pos (by assumption)]; rfl))) .ret (.inl rfl)
 ·
  replace hF := hF.know (d := 30) (v' := .bool false) (by kernel_rfl) (congrArg Value.bool (notF q1))
  refine Vp hF (.nilIface) ?_; clear hF; intro a hF
  refine Vp hF (.bool false) ?_; clear hF; intro a hF
  refine Vp hF (.bool false) ?_; clear hF; intro a hF
  refine Vp hF (.bool false) ?_; clear hF; intro a hF
  refine Vp hF ((if atoiOk (slT s) then .nilIface else .iface te1 pe1)) ?_; clear hF; intro a hF
  refine Vr hF (.bool (!(atoiOk (slT s)))) (x_errNe (b := atoiOk (slT s)) (te := te1) (pe := pe1) rfl (by kernel_rfl) (by kernel_rfl) (by kernel_rfl) (by kernel_rfl)) ?_; clear hF; intro a hF
  refine Vp hF (.bool (!(atoiOk (slT s)))) ?_; clear hF; intro a hF
  refine Vp hF (.bool (!(atoiOk (slT s)))) ?_; clear hF; intro a hF
  cases q2 : (atoiOk (slT s) : Bool)
  ·
   replace hF := hF.know (d := 38) (v' := .bool true) (by kernel_rfl) (congrArg Value.bool (notT q2))
   refine Lo hF ?_; clear hF; intro a hF
   refine Lo hF ?_; clear hF; intro a hF
   refine Vp hF (.bool true) ?_; clear hF; intro a hF
   refine Vp hF (.bool true) ?_; clear hF; intro a hF
   refine Lo hF ?_; clear hF; intro a hF
   refine Lo hF ?_; clear hF; intro a hF
   refine Vp hF (.bool true) ?_; clear hF; intro a hF
   refine Vp hF (.bool true) ?_; clear hF; intro a hF
   refine Lo hF ?_; clear hF; intro a hF
   refine Lo hF ?_; clear hF; intro a hF
   refine Lo hF ?_; clear hF; intro a hF
   refine Lo hF ?_; clear hF; intro a hF
   refine Vp hF (.bool true) ?_; clear hF; intro a hF
   refine Vp hF (.bool true) ?_; clear hF; intro a hF
   refine L_nil ?_
   refine hK6 _ _ ?_
   refine cond_t hF (by kernel_rfl) (by kernel_rfl) ?_
   refine wp_seq_k fun K8 hK8 => ?_
   refine A_start (fun Wx => Own W noX [.blk b2 (.cells (ipL x0).toArray 33 (0, 0))] Wx) (by kernel_rfl) ?_
   replace hO := hO.drewN 1
   generalize hWd : ({ W6 with drawn := W6.drawn + 1 } : World) = W6_d at hO ⊢; clear hWd
   have hS := hO.sub (.cons_cons _ (List.nil_sublist _))
   refine Tk 0 rfl hF (.agg zPC03) (fun Wx _ => by kernel_rfl) hS ?_; clear hF; intro a hF
   refine Tk 1 rfl hF (errV ea 3) (fun Wx hO => x_load (p := .pointer (some ⟨4, 0, none⟩)) rfl (by kernel_rfl) (hE.load hO 3 4 h3 (by kernel_rfl))) hS ?_; clear hF; intro a hF
   refine A_one (i := 2) (listed' := #[true, true, true, false]) (by kernel_rfl) rfl (by kernel_rfl) ?_
   obtain ⟨W8, hst, hO1⟩ := run_storeAt (P := Tryz.prog) (k := 18) (T := 68) (off := 0) (v := .agg zPC03) (cs := zPC03) (cs' := zPC03) hO (by kernel_rfl) (by kernel_rfl) (by kernel_rfl) (Nat.le_of_ble_eq_true (by kernel_rfl)) (by kernel_rfl) (.tail (.head _))
   refine OpK.skip hF (by kernel_rfl) (by kernel_rfl) (x_store (p := .pointer (some ⟨b1, 0, none⟩)) (v := .agg zPC03) rfl (by kernel_rfl) (by kernel_rfl) hst) (by kernel_rfl) ?_
   clear hst hF; intro a hF; replace hO := hO1; clear hO1
   refine ⟨hO.sub (.cons_cons _ (List.nil_sublist _)), ?_⟩
   have hS := hO.sub (.cons_cons _ (List.nil_sublist _))
   refine Tk 3 rfl hF (errV ea 3) (fun Wx _ => by kernel_rfl) hS ?_; clear hF; intro a hF
   refine A_done (by kernel_rfl) ?_
   refine hK8 _ _ ?_
   refine wp_ret ?_
   refine block_ret ?_
   refine then_ret ?_
   refine ret2 hF (v := .agg zPC03) (u := errV ea 3) rfl (resC (ad := ⟨b1, 0, none⟩) (by kernel_rfl) (run_loadA (k := 18) (by kernel_rfl) (by kernel_rfl) (hO.blk (List.mem_cons_of_mem _ List.mem_cons_self)) (by kernel_rfl) (by kernel_rfl))) (resT (by kernel_rfl)) (by refine ⟨?_, hO.nil⟩; first | (rw [parseCd_none hp]; rfl) | (rw [parseCd_no hp (.inl (by assumption))]; rfl) | (rw [parseCd_no hp (.inr (numOk_no (.inl (by assumption))))]; rfl) | (rw [parseCd_no hp (.inr (numOk_no (.inr (.inl (by assumption)))))]; rfl) | (rw [parseCd_no hp (.inr (numOk_no (.inr (.inr (.inl (by assumption))))))]; rfl) | (rw [parseCd_no hp (.inr (numOk_no (.inr (.inr (.inr (by assumption))))))]; rfl) | (rw [parseCd_yes hp (by assumption) (numOk_yes (by assumption) (by assumption) (by assumption) (by assumption))]; first | (rw [if_neg (by simp [*])]; rfl) | (rw [if_pos (by assumption), if_neg (by assumption)]; rfl) | (rw [if_pos (by assumption), if_pos (by assumption)]; rfl))) .ret (.inl rfl)
  ·
   replace hF := hF.know (d := 38) (v' := .bool false) (by kernel_rfl) (congrArg Value.bool (notF q2))
   refine Vp hF (.int .i64 ((atoiN (slT s)))) ?_; clear hF; intro a hF
   refine Vp hF (.bool (decide ((atoiN (slT s)) < 0))) ?_; clear hF; intro a hF
   refine Vp hF (.bool (decide ((atoiN (slT s)) < 0))) ?_; clear hF; intro a hF
   refine Vp hF (.bool (decide ((atoiN (slT s)) < 0))) ?_; clear hF; intro a hF
   by_cases q3 : (atoiN (slT s)) < 0
   ·
    replace hF := hF.know (d := 42) (v' := .bool true) (by kernel_rfl) (congrArg Value.bool (decide_eq_true q3))
    refine Lo hF ?_; clear hF; intro a hF
    refine Lo hF ?_; clear hF; intro a hF
    refine Vp hF (.bool true) ?_; clear hF; intro a hF
    refine Vp hF (.bool true) ?_; clear hF; intro a hF
    refine Lo hF ?_; clear hF; intro a hF
    refine Lo hF ?_; clear hF; intro a hF
    refine Lo hF ?_; clear hF; intro a hF
    refine Lo hF ?_; clear hF; intro a hF
    refine Vp hF (.bool true) ?_; clear hF; intro a hF
    refine Vp hF (.bool true) ?_; clear hF; intro a hF
    refine L_nil ?_
    refine hK6 _ _ ?_
    refine cond_t hF (by kernel_rfl) (by kernel_rfl) ?_
    refine wp_seq_k fun K9 hK9 => ?_
    refine A_start (fun Wx => Own W noX [.blk b2 (.cells (ipL x0).toArray 33 (0, 0))] Wx) (by kernel_rfl) ?_
    replace hO := hO.drewN 1
    generalize hWd : ({ W6 with drawn := W6.drawn + 1 } : World) = W6_d at hO ⊢; clear hWd
    have hS := hO.sub (.cons_cons _ (List.nil_sublist _))
    refine Tk 0 rfl hF (.agg zPC03) (fun Wx _ => by kernel_rfl) hS ?_; clear hF; intro a hF
    refine Tk 1 rfl hF (errV ea 3) (fun Wx hO => x_load (p := .pointer (some ⟨4, 0, none⟩)) rfl (by kernel_rfl) (hE.load hO 3 4 h3 (by kernel_rfl))) hS ?_; clear hF; intro a hF
    refine A_one (i := 2) (listed' := #[true, true, true, false]) (by kernel_rfl) rfl (by kernel_rfl) ?_
    obtain ⟨W9, hst, hO1⟩ := run_storeAt (P := Tryz.prog) (k := 18) (T := 68) (off := 0) (v := .agg zPC03) (cs := zPC03) (cs' := zPC03) hO (by kernel_rfl) (by kernel_rfl) (by kernel_rfl) (Nat.le_of_ble_eq_true (by kernel_rfl)) (by kernel_rfl) (.tail (.head _))
    refine OpK.skip hF (by kernel_rfl) (by kernel_rfl) (x_store (p := .pointer (some ⟨b1, 0, none⟩)) (v := .agg zPC03) rfl (by kernel_rfl) (by kernel_rfl) hst) (by kernel_rfl) ?_
    clear hst hF; intro a hF; replace hO := hO1; clear hO1
    refine ⟨hO.sub (.cons_cons _ (List.nil_sublist _)), ?_⟩
    have hS := hO.sub (.cons_cons _ (List.nil_sublist _))
    refine Tk 3 rfl hF (errV ea 3) (fun Wx _ => by kernel_rfl) hS ?_; clear hF; intro a hF
    refine A_done (by kernel_rfl) ?_
    refine hK9 _ _ ?_
    refine wp_ret ?_
    refine block_ret ?_
    refine then_ret ?_
    refine ret2 hF (v := .agg zPC03) (u := errV ea 3) rfl (resC (ad := ⟨b1, 0, none⟩) (by kernel_rfl) (run_loadA (k := 18) (by kernel_rfl) (by kernel_rfl) (hO.blk (List.mem_cons_of_mem _ List.mem_cons_self)) (by kernel_rfl) (by kernel_rfl))) (resT (by kernel_rfl)) (by refine ⟨?_, hO.nil⟩; first | (rw [parseCd_none hp]; rfl) | (rw [parseCd_no hp (.inl (by assumption))]; rfl) | (rw [parseCd_no hp (.inr (numOk_no (.inl (by assumption))))]; rfl) | (rw [parseCd_no hp (.inr (numOk_no (.inr (.inl (by assumption)))))]; rfl) | (rw [parseCd_no hp (.inr (numOk_no (.inr (.inr (.inl (by assumption))))))]; rfl) | (rw [parseCd_no hp (.inr (numOk_no (.inr (.inr (.inr (by assumption))))))]; rfl) | (rw [parseCd_yes hp (by assumption) (numOk_yes (by assumption) (by assumption) (by assumption) (by assumption))]; first | (rw [if_neg (by simp [*])]; rfl) | (rw [if_pos (by assumption), if_neg (by assumption)]; rfl) | (rw [if_pos (by assumption), if_pos (by assumption)]; rfl))) .ret (.inl rfl)
   ·
    replace hF := hF.know (d := 42) (v' := .bool false) (by kernel_rfl) (congrArg Value.bool (decide_eq_false q3))
    refine Vp hF (.int .i64 ((atoiN (slT s)))) ?_; clear hF; intro a hF
    refine Vp hF (.bool (decide ((atoiN (slT s)) > 128))) ?_; clear hF; intro a hF
    refine Vp hF (.bool (decide ((atoiN (slT s)) > 128))) ?_; clear hF; intro a hF
    refine Vp hF (.bool (decide ((atoiN (slT s)) > 128))) ?_; clear hF; intro a hF
    by_cases q4 : (atoiN (slT s)) > 128
    ·
     replace hF := hF.know (d := 46) (v' := .bool true) (by kernel_rfl) (congrArg Value.bool (decide_eq_true q4))
     refine Lo hF ?_; clear hF; intro a hF
     refine Lo hF ?_; clear hF; intro a hF
     refine Lo hF ?_; clear hF; intro a hF
     refine Lo hF ?_; clear hF; intro a hF
     refine Vp hF (.bool true) ?_; clear hF; intro a hF
     refine Vp hF (.bool true) ?_; clear hF; intro a hF
     refine L_nil ?_
     refine hK6 _ _ ?_
     refine cond_t hF (by kernel_rfl) (by kernel_rfl) ?_
     refine wp_seq_k fun K10 hK10 => ?_
     refine A_start (fun Wx => Own W noX [.blk b2 (.cells (ipL x0).toArray 33 (0, 0))] Wx) (by kernel_rfl) ?_
     replace hO := hO.drewN 1
     generalize hWd : ({ W6 with drawn := W6.drawn + 1 } : World) = W6_d at hO ⊢; clear hWd
     have hS := hO.sub (.cons_cons _ (List.nil_sublist _))
     refine Tk 0 rfl hF (.agg zPC03) (fun Wx _ => by kernel_rfl) hS ?_; clear hF; intro a hF
     refine Tk 1 rfl hF (errV ea 3) (fun Wx hO => x_load (p := .pointer (some ⟨4, 0, none⟩)) rfl (by kernel_rfl) (hE.load hO 3 4 h3 (by kernel_rfl))) hS ?_; clear hF; intro a hF
     refine A_one (i := 2) (listed' := #[true, true, true, false]) (by kernel_rfl) rfl (by kernel_rfl) ?_
     obtain ⟨W10, hst, hO1⟩ := run_storeAt (P := Tryz.prog) (k := 18) (T := 68) (off := 0) (v := .agg zPC03) (cs := zPC03) (cs' := zPC03) hO (by kernel_rfl) (by kernel_rfl) (by kernel_rfl) (Nat.le_of_ble_eq_true (by kernel_rfl)) (by kernel_rfl) (.tail (.head _))
     refine OpK.skip hF (by kernel_rfl) (by kernel_rfl) (x_store (p := .pointer (some ⟨b1, 0, none⟩)) (v := .agg zPC03) rfl (by kernel_rfl) (by kernel_rfl) hst) (by kernel_rfl) ?_
     clear hst hF; intro a hF; replace hO := hO1; clear hO1
     refine ⟨hO.sub (.cons_cons _ (List.nil_sublist _)), ?_⟩
     have hS := hO.sub (.cons_cons _ (List.nil_sublist _))
     refine Tk 3 rfl hF (errV ea 3) (fun Wx _ => by kernel_rfl) hS ?_; clear hF; intro a hF
     refine A_done (by kernel_rfl) ?_
     refine hK10 _ _ ?_
     refine wp_ret ?_
     refine block_ret ?_
     refine then_ret ?_
     refine ret2 hF (v := .agg zPC03) (u := errV ea 3) rfl (resC (ad := ⟨b1, 0, none⟩) (by kernel_rfl) (run_loadA (k := 18) (by kernel_rfl) (by kernel_rfl) (hO.blk (List.mem_cons_of_mem _ List.mem_cons_self)) (by kernel_rfl) (by kernel_rfl))) (resT (by kernel_rfl)) (by refine ⟨?_, hO.nil⟩; first | (rw [parseCd_none hp]; rfl) | (rw [parseCd_no hp (.inl (by assumption))]; rfl) | (rw [parseCd_no hp (.inr (numOk_no (.inl (by assumption))))]; rfl) | (rw [parseCd_no hp (.inr (numOk_no (.inr (.inl (by assumption)))))]; rfl) | (rw [parseCd_no hp (.inr (numOk_no (.inr (.inr (.inl (by assumption))))))]; rfl) | (rw [parseCd_no hp (.inr (numOk_no (.inr (.inr (.inr (by assumption))))))]; rfl) | (rw [parseCd_yes hp (by assumption) (numOk_yes (by assumption) (by assumption) (by assumption) (by assumption))]; first | (rw [if_neg (by simp [*])]; rfl) | (rw [if_pos (by assumption), if_neg (by assumption)]; rfl) | (rw [if_pos (by assumption), if_pos (by assumption)]; rfl))) .ret (.inl rfl)
    ·
     replace hF := hF.know (d := 46) (v' := .bool false) (by kernel_rfl) (congrArg Value.bool (decide_eq_false q4))
     refine Vp hF (.int .i64 ((atoiN (slT s)))) ?_; clear hF; intro a hF
     refine Lc hF (itoa_ret (atoiN (slT s)) W6 (hG.own hO) (by omega) (by omega)) ?_
     clear hF; rintro _ W11 a ⟨rfl, hk⟩ hF
     replace hO := hO.call0 hk; clear hk
     refine Vp hF (.string (slT s)) ?_; clear hF; intro a hF
     refine Vp hF (.bool (!(strEq (⟨(Lib.itoa (atoiN (slT s))).toArray⟩ : ByteArray) (slT s)))) ?_; clear hF; intro a hF
     refine Vp hF (.bool (!(strEq (⟨(Lib.itoa (atoiN (slT s))).toArray⟩ : ByteArray) (slT s)))) ?_; clear hF; intro a hF
     refine Vp hF (.bool (!(strEq (⟨(Lib.itoa (atoiN (slT s))).toArray⟩ : ByteArray) (slT s)))) ?_; clear hF; intro a hF
     refine L_nil ?_
     refine hK6 _ _ ?_
     by_cases q5 : (⟨(Lib.itoa (atoiN (slT s))).toArray⟩ : ByteArray) = slT s
     ·
      replace hF := hF.know (d := 27) (v' := .bool false) (by kernel_rfl) (congrArg Value.bool (notF (strEq_iff.2 (Decidable.of_not_not (not_not_intro q5)))))
      refine cond_f hF (by kernel_rfl) (by kernel_rfl) ?_
      refine wp_seq_k fun K11 hK11 => ?_
      refine wp_region_lit ?_
      refine Vr hF (ipV x0) (x_load (p := .pointer (some ⟨b2, 0, none⟩)) rfl (by kernel_rfl) (run_loadA (k := 17) (by kernel_rfl) (by kernel_rfl) (hO.blk List.mem_cons_self) (by kernel_rfl) (by kernel_rfl))) ?_; clear hF; intro a hF
      refine Vp hF (.int .i64 ((atoiN (slT s)))) ?_; clear hF; intro a hF
      refine Lc hF (cidr_fits x0 (atoiN (slT s)) W11) ?_
      clear hF; rintro _ W12 a ⟨rfl, hk⟩ hF
      replace hO := hO.call0 hk; clear hk
      refine Vp hF (.bool (!(fitsIp x0 (atoiN (slT s))))) ?_; clear hF; intro a hF
      refine Vp hF (.bool (!(fitsIp x0 (atoiN (slT s))))) ?_; clear hF; intro a hF
      refine L_nil ?_
      refine hK11 _ _ ?_
      cases q6 : (fitsIp x0 (atoiN (slT s)) : Bool)
      ·
       replace hF := hF.know (d := 54) (v' := .bool true) (by kernel_rfl) (congrArg Value.bool (notT q6))
       refine cond_t hF (by kernel_rfl) (by kernel_rfl) ?_
       refine wp_seq_k fun K12 hK12 => ?_
       refine A_start (fun Wx => Own W noX [.blk b2 (.cells (ipL x0).toArray 33 (0, 0))] Wx) (by kernel_rfl) ?_
       replace hO := hO.drewN 1
       generalize hWd : ({ W12 with drawn := W12.drawn + 1 } : World) = W12_d at hO ⊢; clear hWd
       have hS := hO.sub (.cons_cons _ (List.nil_sublist _))
       refine Tk 0 rfl hF (.agg zPC03) (fun Wx _ => by kernel_rfl) hS ?_; clear hF; intro a hF
       refine Tk 1 rfl hF (errV ea 0) (fun Wx hO => x_load (p := .pointer (some ⟨1, 0, none⟩)) rfl (by kernel_rfl) (hE.load hO 0 1 h0 (by kernel_rfl))) hS ?_; clear hF; intro a hF
       refine A_one (i := 2) (listed' := #[true, true, true, false]) (by kernel_rfl) rfl (by kernel_rfl) ?_
       obtain ⟨W13, hst, hO1⟩ := run_storeAt (P := Tryz.prog) (k := 18) (T := 68) (off := 0) (v := .agg zPC03) (cs := zPC03) (cs' := zPC03) hO (by kernel_rfl) (by kernel_rfl) (by kernel_rfl) (Nat.le_of_ble_eq_true (by kernel_rfl)) (by kernel_rfl) (.tail (.head _))
       refine OpK.skip hF (by kernel_rfl) (by kernel_rfl) (x_store (p := .pointer (some ⟨b1, 0, none⟩)) (v := .agg zPC03) rfl (by kernel_rfl) (by kernel_rfl) hst) (by kernel_rfl) ?_
       clear hst hF; intro a hF; replace hO := hO1; clear hO1
       refine ⟨hO.sub (.cons_cons _ (List.nil_sublist _)), ?_⟩
       have hS := hO.sub (.cons_cons _ (List.nil_sublist _))
       refine Tk 3 rfl hF (errV ea 0) (fun Wx _ => by kernel_rfl) hS ?_; clear hF; intro a hF
       refine A_done (by kernel_rfl) ?_
       refine hK12 _ _ ?_
       refine wp_ret ?_
       refine block_ret ?_
       refine then_ret ?_
       refine ret2 hF (v := .agg zPC03) (u := errV ea 0) rfl (resC (ad := ⟨b1, 0, none⟩) (by kernel_rfl) (run_loadA (k := 18) (by kernel_rfl) (by kernel_rfl) (hO.blk (List.mem_cons_of_mem _ List.mem_cons_self)) (by kernel_rfl) (by kernel_rfl))) (resT (by kernel_rfl)) (by refine ⟨?_, hO.nil⟩; first | (rw [parseCd_none hp]; rfl) | (rw [parseCd_no hp (.inl (by assumption))]; rfl) | (rw [parseCd_no hp (.inr (numOk_no (.inl (by assumption))))]; rfl) | (rw [parseCd_no hp (.inr (numOk_no (.inr (.inl (by assumption)))))]; rfl) | (rw [parseCd_no hp (.inr (numOk_no (.inr (.inr (.inl (by assumption))))))]; rfl) | (rw [parseCd_no hp (.inr (numOk_no (.inr (.inr (.inr (by assumption))))))]; rfl) | (rw [parseCd_yes hp (by assumption) (numOk_yes (by assumption) (by assumption) (by assumption) (by assumption))]; first | (rw [if_neg (by simp [*])]; rfl) | (rw [if_pos (by assumption), if_neg (by assumption)]; rfl) | (rw [if_pos (by assumption), if_pos (by assumption)]; rfl))) .ret (.inl rfl)
      ·
       replace hF := hF.know (d := 54) (v' := .bool false) (by kernel_rfl) (congrArg Value.bool (notF q6))
       refine cond_f hF (by kernel_rfl) (by kernel_rfl) ?_
       refine wp_seq_k fun K13 hK13 => ?_
       refine A_start (fun Wx => Own W noX [.blk b2 (.cells (ipL x0).toArray 33 (0, 0)), .blk b1 (.cells zPC03 68 (0, 0))] Wx) (by kernel_rfl) ?_
       replace hO := hO.drewN 1
       generalize hWd : ({ W12 with drawn := W12.drawn + 1 } : World) = W12_d at hO ⊢; clear hWd
       have hS := hO.sub (.cons_cons _ (.cons_cons _ (List.nil_sublist _)))
       refine Tk 0 rfl hF (ipV x0) (fun Wx hO => x_load (p := .pointer (some ⟨b2, 0, none⟩)) rfl (by kernel_rfl) (run_loadA (k := 17) (by kernel_rfl) (by kernel_rfl) (hO.blk List.mem_cons_self) (by kernel_rfl) (by kernel_rfl))) hS ?_; clear hF; intro a hF
       refine Tk 1 rfl hF (.int .i64 ((atoiN (slT s)))) (fun Wx _ => by kernel_rfl) hS ?_; clear hF; intro a hF
       refine Tk 3 rfl hF (ipV x0) (fun Wx hO => x_load (p := .pointer (some ⟨b2, 0, none⟩)) rfl (by kernel_rfl) (run_loadA (k := 17) (by kernel_rfl) (by kernel_rfl) (hO.blk List.mem_cons_self) (by kernel_rfl) (by kernel_rfl))) hS ?_; clear hF; intro a hF
       refine A_one (i := 2) (listed' := #[true, true, true, true, false, false]) (by kernel_rfl) rfl (by kernel_rfl) ?_
       refine OpK.lc hF (cidr_cut x0 (atoiN (slT s)) W12_d (by omega) (by omega)) ?_
       clear hF; rintro _ W14 a ⟨rfl, hk⟩ hF
       replace hO := hO.call0 hk; clear hk
       refine ⟨hO.sub (.cons_cons _ (.cons_cons _ (List.nil_sublist _))), ?_⟩
       have hS := hO.sub (.cons_cons _ (.cons_cons _ (List.nil_sublist _)))
       refine Tk 4 rfl hF (.bool (!(decide ((cutIp x0 (atoiN (slT s))) = x0)))) (fun Wx _ => (x_neIp (a := (cutIp x0 (atoiN (slT s)))) (b := x0) rfl (by kernel_rfl) (by kernel_rfl))) hS ?_; clear hF; intro a hF
       refine Tk 5 rfl hF (.bool (!(decide ((cutIp x0 (atoiN (slT s))) = x0)))) (fun Wx _ => by kernel_rfl) hS ?_; clear hF; intro a hF
       refine A_done (by kernel_rfl) ?_
       refine hK13 _ _ ?_
       by_cases q7 : (cutIp x0 (atoiN (slT s))) = x0
       ·
        replace hF := hF.know (d := 61) (v' := .bool false) (by kernel_rfl) (congrArg Value.bool (notF (decide_eq_true (Decidable.of_not_not (not_not_intro q7)))))
        refine cond_f hF (by kernel_rfl) (by kernel_rfl) ?_
        refine wp_skip ?_
        refine block_normal ?_
        refine hK5 _ _ ?_
        refine wp_seq_k fun K14 hK14 => ?_
        refine wp_region_lit ?_
        refine Vr hF (ipV x0) (x_load (p := .pointer (some ⟨b2, 0, none⟩)) rfl (by kernel_rfl) (run_loadA (k := 17) (by kernel_rfl) (by kernel_rfl) (hO.blk List.mem_cons_self) (by kernel_rfl) (by kernel_rfl))) ?_; clear hF; intro a hF
        refine Vp hF (.int .i64 ((atoiN (slT s)))) ?_; clear hF; intro a hF
        refine Vp hF (.agg #[.bool x0.six, .int .u8 ((x0.b0.toNat : Int)), .int .u8 ((x0.b1.toNat : Int)), .int .u8 ((x0.b2.toNat : Int)), .int .u8 ((x0.b3.toNat : Int)), .int .u8 ((x0.b4.toNat : Int)), .int .u8 ((x0.b5.toNat : Int)), .int .u8 ((x0.b6.toNat : Int)), .int .u8 ((x0.b7.toNat : Int)), .int .u8 ((x0.b8.toNat : Int)), .int .u8 ((x0.b9.toNat : Int)), .int .u8 ((x0.b10.toNat : Int)), .int .u8 ((x0.b11.toNat : Int)), .int .u8 ((x0.b12.toNat : Int)), .int .u8 ((x0.b13.toNat : Int)), .int .u8 ((x0.b14.toNat : Int)), .int .u8 ((x0.b15.toNat : Int)), .int .i64 ((atoiN (slT s)))]) ?_; clear hF; intro a hF
        obtain ⟨W15, hst, hO1⟩ := run_storeAt (P := Tryz.prog) (k := 18) (T := 68) (off := 0) (v := .agg #[.bool x0.six, .int .u8 ((x0.b0.toNat : Int)), .int .u8 ((x0.b1.toNat : Int)), .int .u8 ((x0.b2.toNat : Int)), .int .u8 ((x0.b3.toNat : Int)), .int .u8 ((x0.b4.toNat : Int)), .int .u8 ((x0.b5.toNat : Int)), .int .u8 ((x0.b6.toNat : Int)), .int .u8 ((x0.b7.toNat : Int)), .int .u8 ((x0.b8.toNat : Int)), .int .u8 ((x0.b9.toNat : Int)), .int .u8 ((x0.b10.toNat : Int)), .int .u8 ((x0.b11.toNat : Int)), .int .u8 ((x0.b12.toNat : Int)), .int .u8 ((x0.b13.toNat : Int)), .int .u8 ((x0.b14.toNat : Int)), .int .u8 ((x0.b15.toNat : Int)), .int .i64 ((atoiN (slT s)))]) (cs := zPC03) (cs' := #[.bool x0.six, .int .u8 ((x0.b0.toNat : Int)), .int .u8 ((x0.b1.toNat : Int)), .int .u8 ((x0.b2.toNat : Int)), .int .u8 ((x0.b3.toNat : Int)), .int .u8 ((x0.b4.toNat : Int)), .int .u8 ((x0.b5.toNat : Int)), .int .u8 ((x0.b6.toNat : Int)), .int .u8 ((x0.b7.toNat : Int)), .int .u8 ((x0.b8.toNat : Int)), .int .u8 ((x0.b9.toNat : Int)), .int .u8 ((x0.b10.toNat : Int)), .int .u8 ((x0.b11.toNat : Int)), .int .u8 ((x0.b12.toNat : Int)), .int .u8 ((x0.b13.toNat : Int)), .int .u8 ((x0.b14.toNat : Int)), .int .u8 ((x0.b15.toNat : Int)), .int .i64 ((atoiN (slT s)))]) hO (by kernel_rfl) (by kernel_rfl) (by kernel_rfl) (Nat.le_of_ble_eq_true (by kernel_rfl)) (by kernel_rfl) (.tail (.head _))
        refine L_skip hF (by kernel_rfl) (by kernel_rfl) (x_store (p := .pointer (some ⟨b1, 0, none⟩)) (v := .agg #[.bool x0.six, .int .u8 ((x0.b0.toNat : Int)), .int .u8 ((x0.b1.toNat : Int)), .int .u8 ((x0.b2.toNat : Int)), .int .u8 ((x0.b3.toNat : Int)), .int .u8 ((x0.b4.toNat : Int)), .int .u8 ((x0.b5.toNat : Int)), .int .u8 ((x0.b6.toNat : Int)), .int .u8 ((x0.b7.toNat : Int)), .int .u8 ((x0.b8.toNat : Int)), .int .u8 ((x0.b9.toNat : Int)), .int .u8 ((x0.b10.toNat : Int)), .int .u8 ((x0.b11.toNat : Int)), .int .u8 ((x0.b12.toNat : Int)), .int .u8 ((x0.b13.toNat : Int)), .int .u8 ((x0.b14.toNat : Int)), .int .u8 ((x0.b15.toNat : Int)), .int .i64 ((atoiN (slT s)))]) rfl (by kernel_rfl) (by kernel_rfl) hst) (by kernel_rfl) ?_
        clear hst hF; intro a hF; replace hO := hO1; clear hO1
        refine Vp hF (.nilIface) ?_; clear hF; intro a hF
        refine L_nil ?_
        refine hK14 _ _ ?_
        refine wp_ret ?_
        refine ret2 hF (v := .agg #[.bool x0.six, .int .u8 ((x0.b0.toNat : Int)), .int .u8 ((x0.b1.toNat : Int)), .int .u8 ((x0.b2.toNat : Int)), .int .u8 ((x0.b3.toNat : Int)), .int .u8 ((x0.b4.toNat : Int)), .int .u8 ((x0.b5.toNat : Int)), .int .u8 ((x0.b6.toNat : Int)), .int .u8 ((x0.b7.toNat : Int)), .int .u8 ((x0.b8.toNat : Int)), .int .u8 ((x0.b9.toNat : Int)), .int .u8 ((x0.b10.toNat : Int)), .int .u8 ((x0.b11.toNat : Int)), .int .u8 ((x0.b12.toNat : Int)), .int .u8 ((x0.b13.toNat : Int)), .int .u8 ((x0.b14.toNat : Int)), .int .u8 ((x0.b15.toNat : Int)), .int .i64 ((atoiN (slT s)))]) (u := .nilIface) rfl (resC (ad := ⟨b1, 0, none⟩) (by kernel_rfl) (run_loadA (k := 18) (by kernel_rfl) (by kernel_rfl) (hO.blk (List.mem_cons_of_mem _ List.mem_cons_self)) (by kernel_rfl) (by kernel_rfl))) (resT (by kernel_rfl)) (by refine ⟨?_, hO.nil⟩; first | (rw [parseCd_none hp]; rfl) | (rw [parseCd_no hp (.inl (by assumption))]; rfl) | (rw [parseCd_no hp (.inr (numOk_no (.inl (by assumption))))]; rfl) | (rw [parseCd_no hp (.inr (numOk_no (.inr (.inl (by assumption)))))]; rfl) | (rw [parseCd_no hp (.inr (numOk_no (.inr (.inr (.inl (by assumption))))))]; rfl) | (rw [parseCd_no hp (.inr (numOk_no (.inr (.inr (.inr (by assumption))))))]; rfl) | (rw [parseCd_yes hp (by assumption) (numOk_yes (by assumption) (by assumption) (by assumption) (by assumption))]; first | (rw [if_neg (by simp [*])]; rfl) | (rw [if_pos (by assumption), if_neg (by assumption)]; rfl) | (rw [if_pos (by assumption), if_pos (by assumption)]; rfl))) .ret (.inl rfl)
       ·
        replace hF := hF.know (d := 61) (v' := .bool true) (by kernel_rfl) (congrArg Value.bool (notT (decide_eq_false q7)))
        refine cond_t hF (by kernel_rfl) (by kernel_rfl) ?_
        refine wp_seq_k fun K15 hK15 => ?_
        refine A_start (fun Wx => Own W noX [.blk b2 (.cells (ipL x0).toArray 33 (0, 0))] Wx) (by kernel_rfl) ?_
        replace hO := hO.drewN 1
        generalize hWd : ({ W14 with drawn := W14.drawn + 1 } : World) = W14_d at hO ⊢; clear hWd
        have hS := hO.sub (.cons_cons _ (List.nil_sublist _))
        refine Tk 0 rfl hF (.agg zPC03) (fun Wx _ => by kernel_rfl) hS ?_; clear hF; intro a hF
        refine Tk 1 rfl hF (errV ea 7) (fun Wx hO => x_load (p := .pointer (some ⟨8, 0, none⟩)) rfl (by kernel_rfl) (hE.load hO 7 8 h7 (by kernel_rfl))) hS ?_; clear hF; intro a hF
        refine A_one (i := 2) (listed' := #[true, true, true, false]) (by kernel_rfl) rfl (by kernel_rfl) ?_
        obtain ⟨W16, hst, hO1⟩ := run_storeAt (P := Tryz.prog) (k := 18) (T := 68) (off := 0) (v := .agg zPC03) (cs := zPC03) (cs' := zPC03) hO (by kernel_rfl) (by kernel_rfl) (by kernel_rfl) (Nat.le_of_ble_eq_true (by kernel_rfl)) (by kernel_rfl) (.tail (.head _))
        refine OpK.skip hF (by kernel_rfl) (by kernel_rfl) (x_store (p := .pointer (some ⟨b1, 0, none⟩)) (v := .agg zPC03) rfl (by kernel_rfl) (by kernel_rfl) hst) (by kernel_rfl) ?_
        clear hst hF; intro a hF; replace hO := hO1; clear hO1
        refine ⟨hO.sub (.cons_cons _ (List.nil_sublist _)), ?_⟩
        have hS := hO.sub (.cons_cons _ (List.nil_sublist _))
        refine Tk 3 rfl hF (errV ea 7) (fun Wx _ => by kernel_rfl) hS ?_; clear hF; intro a hF
        refine A_done (by kernel_rfl) ?_
        refine hK15 _ _ ?_
        refine wp_ret ?_
        refine block_ret ?_
        refine then_ret ?_
        refine ret2 hF (v := .agg zPC03) (u := errV ea 7) rfl (resC (ad := ⟨b1, 0, none⟩) (by kernel_rfl) (run_loadA (k := 18) (by kernel_rfl) (by kernel_rfl) (hO.blk (List.mem_cons_of_mem _ List.mem_cons_self)) (by kernel_rfl) (by kernel_rfl))) (resT (by kernel_rfl)) (by refine ⟨?_, hO.nil⟩; first | (rw [parseCd_none hp]; rfl) | (rw [parseCd_no hp (.inl (by assumption))]; rfl) | (rw [parseCd_no hp (.inr (numOk_no (.inl (by assumption))))]; rfl) | (rw [parseCd_no hp (.inr (numOk_no (.inr (.inl (by assumption)))))]; rfl) | (rw [parseCd_no hp (.inr (numOk_no (.inr (.inr (.inl (by assumption))))))]; rfl) | (rw [parseCd_no hp (.inr (numOk_no (.inr (.inr (.inr (by assumption))))))]; rfl) | (rw [parseCd_yes hp (by assumption) (numOk_yes (by assumption) (by assumption) (by assumption) (by assumption))]; first | (rw [if_neg (by simp [*])]; rfl) | (rw [if_pos (by assumption), if_neg (by assumption)]; rfl) | (rw [if_pos (by assumption), if_pos (by assumption)]; rfl))) .ret (.inl rfl)
     ·
      replace hF := hF.know (d := 27) (v' := .bool true) (by kernel_rfl) (congrArg Value.bool (notT (strEq_false.2 q5)))
      refine cond_t hF (by kernel_rfl) (by kernel_rfl) ?_
      refine wp_seq_k fun K16 hK16 => ?_
      refine A_start (fun Wx => Own W noX [.blk b2 (.cells (ipL x0).toArray 33 (0, 0))] Wx) (by kernel_rfl) ?_
      replace hO := hO.drewN 1
      generalize hWd : ({ W11 with drawn := W11.drawn + 1 } : World) = W11_d at hO ⊢; clear hWd
      have hS := hO.sub (.cons_cons _ (List.nil_sublist _))
      refine Tk 0 rfl hF (.agg zPC03) (fun Wx _ => by kernel_rfl) hS ?_; clear hF; intro a hF
      refine Tk 1 rfl hF (errV ea 3) (fun Wx hO => x_load (p := .pointer (some ⟨4, 0, none⟩)) rfl (by kernel_rfl) (hE.load hO 3 4 h3 (by kernel_rfl))) hS ?_; clear hF; intro a hF
      refine A_one (i := 2) (listed' := #[true, true, true, false]) (by kernel_rfl) rfl (by kernel_rfl) ?_
      obtain ⟨W17, hst, hO1⟩ := run_storeAt (P := Tryz.prog) (k := 18) (T := 68) (off := 0) (v := .agg zPC03) (cs := zPC03) (cs' := zPC03) hO (by kernel_rfl) (by kernel_rfl) (by kernel_rfl) (Nat.le_of_ble_eq_true (by kernel_rfl)) (by kernel_rfl) (.tail (.head _))
      refine OpK.skip hF (by kernel_rfl) (by kernel_rfl) (x_store (p := .pointer (some ⟨b1, 0, none⟩)) (v := .agg zPC03) rfl (by kernel_rfl) (by kernel_rfl) hst) (by kernel_rfl) ?_
      clear hst hF; intro a hF; replace hO := hO1; clear hO1
      refine ⟨hO.sub (.cons_cons _ (List.nil_sublist _)), ?_⟩
      have hS := hO.sub (.cons_cons _ (List.nil_sublist _))
      refine Tk 3 rfl hF (errV ea 3) (fun Wx _ => by kernel_rfl) hS ?_; clear hF; intro a hF
      refine A_done (by kernel_rfl) ?_
      refine hK16 _ _ ?_
      refine wp_ret ?_
      refine block_ret ?_
      refine then_ret ?_
      refine ret2 hF (v := .agg zPC03) (u := errV ea 3) rfl (resC (ad := ⟨b1, 0, none⟩) (by kernel_rfl) (run_loadA (k := 18) (by kernel_rfl) (by kernel_rfl) (hO.blk (List.mem_cons_of_mem _ List.mem_cons_self)) (by kernel_rfl) (by kernel_rfl))) (resT (by kernel_rfl)) (by refine ⟨?_, hO.nil⟩; first | (rw [parseCd_none hp]; rfl) | (rw [parseCd_no hp (.inl (by assumption))]; rfl) | (rw [parseCd_no hp (.inr (numOk_no (.inl (by assumption))))]; rfl) | (rw [parseCd_no hp (.inr (numOk_no (.inr (.inl (by assumption)))))]; rfl) | (rw [parseCd_no hp (.inr (numOk_no (.inr (.inr (.inl (by assumption))))))]; rfl) | (rw [parseCd_no hp (.inr (numOk_no (.inr (.inr (.inr (by assumption))))))]; rfl) | (rw [parseCd_yes hp (by assumption) (numOk_yes (by assumption) (by assumption) (by assumption) (by assumption))]; first | (rw [if_neg (by simp [*])]; rfl) | (rw [if_pos (by assumption), if_neg (by assumption)]; rfl) | (rw [if_pos (by assumption), if_pos (by assumption)]; rfl))) .ret (.inl rfl)

theorem cidr_Parse (I : List Nat) (ea : Nat → Addr) (s : ByteArray) (W : World) (hG : LibW W) (hE : Errs I ea W) (h3 : I.contains 3 = true) (h0 : I.contains 0 = true) (h7 : I.contains 7 = true) (hs : s.size ≤ 1000000) : Ret Tryz.prog 51 #[.string s] W fun v W' => v = retCd ea (parseCd s) ∧ Own W noX [] W' := by
  cases hp : parseIp (slH s) with
  | none => exact cidr_Parse_n I ea s W hG hE h3 h0 h7 hs hp
  | some x0 => exact cidr_Parse_s I ea s x0 W hG hE h3 h0 h7 hs hp
set_option maxRecDepth 20000 in
theorem cidr_Format (c : Pt) (W : World) (hG : LibW W) : Ret Tryz.prog 55 #[ptV c] W fun v W' => v = .string (fmtCd c) ∧ Own W noX [] W' := by
 refine enter Tryz.func55 rfl (n := 14) rfl (by kernel_rfl) (E0 := [(0, ptV c)]) (by kernel_rfl) ?_
 intro a hF; have hO := Own.start W noX
 refine wp_seq_k fun K1 hK1 => ?_
 refine wp_region_lit ?_
 refine L_new hF hO (by kernel_rfl) (by kernel_rfl) (vf := fun b => .pointer (some ⟨b, 0, none⟩)) (ob := .cells #[.bool c.ip.six, .int .u8 ((c.ip.b0.toNat : Int)), .int .u8 ((c.ip.b1.toNat : Int)), .int .u8 ((c.ip.b2.toNat : Int)), .int .u8 ((c.ip.b3.toNat : Int)), .int .u8 ((c.ip.b4.toNat : Int)), .int .u8 ((c.ip.b5.toNat : Int)), .int .u8 ((c.ip.b6.toNat : Int)), .int .u8 ((c.ip.b7.toNat : Int)), .int .u8 ((c.ip.b8.toNat : Int)), .int .u8 ((c.ip.b9.toNat : Int)), .int .u8 ((c.ip.b10.toNat : Int)), .int .u8 ((c.ip.b11.toNat : Int)), .int .u8 ((c.ip.b12.toNat : Int)), .int .u8 ((c.ip.b13.toNat : Int)), .int .u8 ((c.ip.b14.toNat : Int)), .int .u8 ((c.ip.b15.toNat : Int)), .int .i64 (c.port)] 68) (by kernel_rfl) (by kernel_rfl) ?_
 clear hF hO; intro b1 W1 a hO hF
 refine Vp hF (.string (⟨#[]⟩ : ByteArray)) ?_; clear hF; intro a hF
 refine L_nil ?_
 refine hK1 _ _ ?_
 refine wp_seq_k fun K2 hK2 => ?_
 refine wp_seq_k fun K3 hK3 => ?_
 refine wp_region_lit ?_
 refine Vr hF (.agg #[.bool c.ip.six, .int .u8 ((c.ip.b0.toNat : Int)), .int .u8 ((c.ip.b1.toNat : Int)), .int .u8 ((c.ip.b2.toNat : Int)), .int .u8 ((c.ip.b3.toNat : Int)), .int .u8 ((c.ip.b4.toNat : Int)), .int .u8 ((c.ip.b5.toNat : Int)), .int .u8 ((c.ip.b6.toNat : Int)), .int .u8 ((c.ip.b7.toNat : Int)), .int .u8 ((c.ip.b8.toNat : Int)), .int .u8 ((c.ip.b9.toNat : Int)), .int .u8 ((c.ip.b10.toNat : Int)), .int .u8 ((c.ip.b11.toNat : Int)), .int .u8 ((c.ip.b12.toNat : Int)), .int .u8 ((c.ip.b13.toNat : Int)), .int .u8 ((c.ip.b14.toNat : Int)), .int .u8 ((c.ip.b15.toNat : Int)), .int .i64 (c.port)]) (x_load (p := .pointer (some ⟨b1, 0, none⟩)) rfl (by kernel_rfl) (run_loadA (k := 18) (by kernel_rfl) (by kernel_rfl) (hO.blk List.mem_cons_self) (by kernel_rfl) (by kernel_rfl))) ?_; clear hF; intro a hF
 refine Lc hF (cidr_Right c W1) ?_
 clear hF; rintro _ W2 a ⟨rfl, hk⟩ hF
 replace hO := hO.call0 hk; clear hk
 refine Vp hF (.bool (!(rightCd c))) ?_; clear hF; intro a hF
 refine L_nil ?_
 refine hK3 _ _ ?_
 cases q1 : (rightCd c : Bool)
 ·
  replace hF := hF.know (d := 5) (v' := .bool true) (by kernel_rfl) (congrArg Value.bool (notT q1))
  refine cond_t hF (by kernel_rfl) (by kernel_rfl) ?_
  refine wp_seq_k fun K4 hK4 => ?_
  refine wp_region_lit ?_
  refine Vp hF (.string (⟨#[]⟩ : ByteArray)) ?_; clear hF; intro a hF
  refine L_nil ?_
  refine hK4 _ _ ?_
  refine wp_ret ?_
  refine then_ret ?_
  refine ret1 hF (v := .string (⟨#[]⟩ : ByteArray)) rfl (resT (by kernel_rfl)) (by refine ⟨?_, hO.nil⟩; first | (rw [fmtCd_no (by assumption)]; done) | (rw [fmtCd_yes (by assumption)]; done)) .ret (.inl rfl)
 ·
  replace hF := hF.know (d := 5) (v' := .bool false) (by kernel_rfl) (congrArg Value.bool (notF q1))
  refine cond_f hF (by kernel_rfl) (by kernel_rfl) ?_
  refine wp_skip ?_
  refine hK2 _ _ ?_
  refine wp_seq_k fun K5 hK5 => ?_
  refine A_start (fun Wx => Own W noX [.blk b1 (.cells #[.bool c.ip.six, .int .u8 ((c.ip.b0.toNat : Int)), .int .u8 ((c.ip.b1.toNat : Int)), .int .u8 ((c.ip.b2.toNat : Int)), .int .u8 ((c.ip.b3.toNat : Int)), .int .u8 ((c.ip.b4.toNat : Int)), .int .u8 ((c.ip.b5.toNat : Int)), .int .u8 ((c.ip.b6.toNat : Int)), .int .u8 ((c.ip.b7.toNat : Int)), .int .u8 ((c.ip.b8.toNat : Int)), .int .u8 ((c.ip.b9.toNat : Int)), .int .u8 ((c.ip.b10.toNat : Int)), .int .u8 ((c.ip.b11.toNat : Int)), .int .u8 ((c.ip.b12.toNat : Int)), .int .u8 ((c.ip.b13.toNat : Int)), .int .u8 ((c.ip.b14.toNat : Int)), .int .u8 ((c.ip.b15.toNat : Int)), .int .i64 (c.port)] 68 (0, 0))] Wx) (by kernel_rfl) ?_
  replace hO := hO.drewN 1
  generalize hWd : ({ W2 with drawn := W2.drawn + 1 } : World) = W2_d at hO ⊢; clear hWd
  have hS := hO.sub (.cons_cons _ (List.nil_sublist _))
  refine Tk 0 rfl hF (.pointer (some ⟨b1, 0, none⟩)) (fun Wx _ => by kernel_rfl) hS ?_; clear hF; intro a hF
  refine Tk 1 rfl hF (ipV c.ip) (fun Wx hO => x_load (p := .pointer (some ⟨b1, 0, none⟩)) rfl (by kernel_rfl) (run_loadA (k := 17) (by kernel_rfl) (by kernel_rfl) (hO.blk List.mem_cons_self) (by kernel_rfl) (by kernel_rfl))) hS ?_; clear hF; intro a hF
  refine Tk 4 rfl hF (.pointer (some ⟨b1, 17, none⟩)) (fun Wx _ => by kernel_rfl) hS ?_; clear hF; intro a hF
  refine Tk 5 rfl hF (.int .i64 (c.port)) (fun Wx hO => x_load (p := .pointer (some ⟨b1, 17, none⟩)) rfl (by kernel_rfl) (run_load1 (by kernel_rfl) ((hO.cell List.mem_cons_self).trans (by kernel_rfl)))) hS ?_; clear hF; intro a hF
  refine A_one (i := 2) (listed' := #[true, true, true, false, true, true, false, false, false]) (by kernel_rfl) rfl (by kernel_rfl) ?_
  refine OpK.lc hF (addr_Format c.ip W2_d (hG.own hO)) ?_
  clear hF; rintro _ W3 a ⟨rfl, hk⟩ hF
  replace hO := hO.call0 hk; clear hk
  refine ⟨hO.sub (.cons_cons _ (List.nil_sublist _)), ?_⟩
  have hS := hO.sub (.cons_cons _ (List.nil_sublist _))
  refine Tk 3 rfl hF (.string ((fmtS c.ip) ++ (⟨#[47]⟩ : ByteArray))) (fun Wx _ => (x_cat (s := fmtS c.ip) (t := (⟨#[47]⟩ : ByteArray)) rfl (by kernel_rfl) (by kernel_rfl) (by (first | omega | (have hb := rightCd_bd (c := c) (by assumption); omega) | (have hb := rightCd_bd (c := c) (by assumption); have h1 := fmtS_len c.ip; have h2 := itoa_size (n := c.port) (by omega) (by omega); (try simp only [ByteArray.size_append]); (simp only [ByteArray.size, List.size_toArray, List.length_cons, List.length_nil] at *); omega))))) hS ?_; clear hF; intro a hF
  refine A_one (i := 6) (listed' := #[true, true, true, true, true, true, true, false, false]) (by kernel_rfl) rfl (by kernel_rfl) ?_
  refine OpK.lc hF (itoa_ret c.port W3 (hG.own hO) (by (first | omega | (have hb := rightCd_bd (c := c) (by assumption); omega) | (have hb := rightCd_bd (c := c) (by assumption); have h1 := fmtS_len c.ip; have h2 := itoa_size (n := c.port) (by omega) (by omega); (try simp only [ByteArray.size_append]); (simp only [ByteArray.size, List.size_toArray, List.length_cons, List.length_nil] at *); omega))) (by (first | omega | (have hb := rightCd_bd (c := c) (by assumption); omega) | (have hb := rightCd_bd (c := c) (by assumption); have h1 := fmtS_len c.ip; have h2 := itoa_size (n := c.port) (by omega) (by omega); (try simp only [ByteArray.size_append]); (simp only [ByteArray.size, List.size_toArray, List.length_cons, List.length_nil] at *); omega)))) ?_
  clear hF; rintro _ W4 a ⟨rfl, hk⟩ hF
  replace hO := hO.call0 hk; clear hk
  refine ⟨hO.sub (.cons_cons _ (List.nil_sublist _)), ?_⟩
  have hS := hO.sub (.cons_cons _ (List.nil_sublist _))
  refine Tk 7 rfl hF (.string (((fmtS c.ip) ++ (⟨#[47]⟩ : ByteArray)) ++ (⟨(Lib.itoa c.port).toArray⟩ : ByteArray))) (fun Wx _ => (x_cat (s := (fmtS c.ip) ++ (⟨#[47]⟩ : ByteArray)) (t := (⟨(Lib.itoa c.port).toArray⟩ : ByteArray)) rfl (by kernel_rfl) (by kernel_rfl) (by (first | omega | (have hb := rightCd_bd (c := c) (by assumption); omega) | (have hb := rightCd_bd (c := c) (by assumption); have h1 := fmtS_len c.ip; have h2 := itoa_size (n := c.port) (by omega) (by omega); (try simp only [ByteArray.size_append]); (simp only [ByteArray.size, List.size_toArray, List.length_cons, List.length_nil] at *); omega))))) hS ?_; clear hF; intro a hF
  refine Tk 8 rfl hF (.string (((fmtS c.ip) ++ (⟨#[47]⟩ : ByteArray)) ++ (⟨(Lib.itoa c.port).toArray⟩ : ByteArray))) (fun Wx _ => by kernel_rfl) hS ?_; clear hF; intro a hF
  refine A_done (by kernel_rfl) ?_
  refine hK5 _ _ ?_
  refine wp_ret ?_
  refine ret1 hF (v := .string (((fmtS c.ip) ++ (⟨#[47]⟩ : ByteArray)) ++ (⟨(Lib.itoa c.port).toArray⟩ : ByteArray))) rfl (resT (by kernel_rfl)) (by refine ⟨?_, hO.nil⟩; first | (rw [fmtCd_no (by assumption)]; done) | (rw [fmtCd_yes (by assumption)]; done)) .ret (.inl rfl)

set_option maxRecDepth 20000 in
theorem law03_alive (I : List Nat) (ea : Nat → Addr) (W : World) (hG : LibW W) (hE : Errs I ea W) (h3 : I.contains 3 = true) (h0 : I.contains 0 = true) (h7 : I.contains 7 = true) : Ret Tryz.prog 50 #[] W fun v W' => v = .bool true ∧ Own W noX [] W' := by
 refine enter Tryz.func50 rfl (n := 20) rfl (by kernel_rfl) (E0 := []) (by kernel_rfl) ?_
 intro a hF; have hO := Own.start W noX
 refine wp_seq_k fun K1 hK1 => ?_
 refine wp_region_lit ?_
 refine Vp hF (.bool false) ?_; clear hF; intro a hF
 refine L_nil ?_
 refine hK1 _ _ ?_
 refine wp_seq_k fun K2 hK2 => ?_
 refine wp_region_lit ?_
 refine Lc hF ((cidr_Parse I ea tenT W (hG.own hO) (hE.own hO) h3 h0 h7 (by decide)).mono fun v W' h => (⟨by rw [h.1, ten_parse]; rfl, h.2⟩ : v = .tuple #[.agg #[.bool false, .int .u8 10, .int .u8 0, .int .u8 0, .int .u8 0, .int .u8 0, .int .u8 0, .int .u8 0, .int .u8 0, .int .u8 0, .int .u8 0, .int .u8 0, .int .u8 0, .int .u8 0, .int .u8 0, .int .u8 0, .int .u8 0, .int .i64 8], .nilIface] ∧ Own W noX [] W')) ?_
 clear hF; rintro _ W1 a ⟨rfl, hk⟩ hF
 replace hO := hO.call0 hk; clear hk
 refine Vp hF (.tuple #[.agg #[.bool false, .int .u8 10, .int .u8 0, .int .u8 0, .int .u8 0, .int .u8 0, .int .u8 0, .int .u8 0, .int .u8 0, .int .u8 0, .int .u8 0, .int .u8 0, .int .u8 0, .int .u8 0, .int .u8 0, .int .u8 0, .int .u8 0, .int .i64 8], .nilIface]) ?_; clear hF; intro a hF
 refine Vp hF (.agg #[.bool false, .int .u8 10, .int .u8 0, .int .u8 0, .int .u8 0, .int .u8 0, .int .u8 0, .int .u8 0, .int .u8 0, .int .u8 0, .int .u8 0, .int .u8 0, .int .u8 0, .int .u8 0, .int .u8 0, .int .u8 0, .int .u8 0, .int .i64 8]) ?_; clear hF; intro a hF
 refine Vp hF (.nilIface) ?_; clear hF; intro a hF
 refine L_new hF hO (by kernel_rfl) (by kernel_rfl) (vf := fun b => .pointer (some ⟨b, 0, none⟩)) (ob := .cells zPC03 68) (by kernel_rfl) (by kernel_rfl) ?_
 clear hF hO; intro b1 W2 a hO hF
 obtain ⟨W3, hst, hO1⟩ := run_storeAt (P := Tryz.prog) (k := 18) (T := 68) (off := 0) (v := .agg #[.bool false, .int .u8 10, .int .u8 0, .int .u8 0, .int .u8 0, .int .u8 0, .int .u8 0, .int .u8 0, .int .u8 0, .int .u8 0, .int .u8 0, .int .u8 0, .int .u8 0, .int .u8 0, .int .u8 0, .int .u8 0, .int .u8 0, .int .i64 8]) (cs := zPC03) (cs' := #[.bool false, .int .u8 10, .int .u8 0, .int .u8 0, .int .u8 0, .int .u8 0, .int .u8 0, .int .u8 0, .int .u8 0, .int .u8 0, .int .u8 0, .int .u8 0, .int .u8 0, .int .u8 0, .int .u8 0, .int .u8 0, .int .u8 0, .int .i64 8]) hO (by kernel_rfl) (by kernel_rfl) (by kernel_rfl) (Nat.le_of_ble_eq_true (by kernel_rfl)) (by kernel_rfl) (.head _)
 refine L_skip hF (by kernel_rfl) (by kernel_rfl) (x_store (p := .pointer (some ⟨b1, 0, none⟩)) (v := .agg #[.bool false, .int .u8 10, .int .u8 0, .int .u8 0, .int .u8 0, .int .u8 0, .int .u8 0, .int .u8 0, .int .u8 0, .int .u8 0, .int .u8 0, .int .u8 0, .int .u8 0, .int .u8 0, .int .u8 0, .int .u8 0, .int .u8 0, .int .i64 8]) rfl (by kernel_rfl) (by kernel_rfl) hst) (by kernel_rfl) ?_
 clear hst hF; intro a hF; replace hO := hO1; clear hO1
 refine Vp hF (.nilIface) ?_; clear hF; intro a hF
 refine L_nil ?_
 refine hK2 _ _ ?_
 refine wp_seq_k fun K3 hK3 => ?_
 refine wp_region_lit ?_
 refine Vp hF (.nilIface) ?_; clear hF; intro a hF
 refine Vp hF (.bool true) ?_; clear hF; intro a hF
 refine Vp hF (.bool true) ?_; clear hF; intro a hF
 refine Vr hF (.agg #[.bool false, .int .u8 10, .int .u8 0, .int .u8 0, .int .u8 0, .int .u8 0, .int .u8 0, .int .u8 0, .int .u8 0, .int .u8 0, .int .u8 0, .int .u8 0, .int .u8 0, .int .u8 0, .int .u8 0, .int .u8 0, .int .u8 0, .int .i64 8]) (x_load (p := .pointer (some ⟨b1, 0, none⟩)) rfl (by kernel_rfl) (run_loadA (k := 18) (by kernel_rfl) (by kernel_rfl) (hO.blk List.mem_cons_self) (by kernel_rfl) (by kernel_rfl))) ?_; clear hF; intro a hF
 refine Vp hF (.agg #[.int .u8 10, .int .u8 1, .int .u8 2, .int .u8 3, .int .u8 0, .int .u8 0, .int .u8 0, .int .u8 0, .int .u8 0, .int .u8 0, .int .u8 0, .int .u8 0, .int .u8 0, .int .u8 0, .int .u8 0, .int .u8 0]) ?_; clear hF; intro a hF
 refine Vp hF (.agg #[.bool false, .int .u8 10, .int .u8 1, .int .u8 2, .int .u8 3, .int .u8 0, .int .u8 0, .int .u8 0, .int .u8 0, .int .u8 0, .int .u8 0, .int .u8 0, .int .u8 0, .int .u8 0, .int .u8 0, .int .u8 0, .int .u8 0]) ?_; clear hF; intro a hF
 refine Lc hF ((cidr_Contains tenCd ⟨false, 10, 1, 2, 3, 0, 0, 0, 0, 0, 0, 0, 0, 0, 0, 0, 0⟩ W3).mono fun v W' h => (⟨by rw [h.1, ten_cont], h.2⟩ : v = .bool true ∧ Own W3 noX [] W')) ?_
 clear hF; rintro _ W4 a ⟨rfl, hk⟩ hF
 replace hO := hO.call0 hk; clear hk
 refine Vp hF (.bool true) ?_; clear hF; intro a hF
 refine Vp hF (.bool true) ?_; clear hF; intro a hF
 refine Vr hF (.agg #[.bool false, .int .u8 10, .int .u8 0, .int .u8 0, .int .u8 0, .int .u8 0, .int .u8 0, .int .u8 0, .int .u8 0, .int .u8 0, .int .u8 0, .int .u8 0, .int .u8 0, .int .u8 0, .int .u8 0, .int .u8 0, .int .u8 0, .int .i64 8]) (x_load (p := .pointer (some ⟨b1, 0, none⟩)) rfl (by kernel_rfl) (run_loadA (k := 18) (by kernel_rfl) (by kernel_rfl) (hO.blk List.mem_cons_self) (by kernel_rfl) (by kernel_rfl))) ?_; clear hF; intro a hF
 refine Lc hF ((cidr_Format tenCd W4 (hG.own hO)).mono fun v W' h => (⟨by rw [h.1, ten_fmt]; rfl, h.2⟩ : v = .string (⟨#[49, 48, 46, 48, 46, 48, 46, 48, 47, 56]⟩ : ByteArray) ∧ Own W4 noX [] W')) ?_
 clear hF; rintro _ W5 a ⟨rfl, hk⟩ hF
 replace hO := hO.call0 hk; clear hk
 refine Vr hF (.bool true) (x_bool (x := strEq (⟨#[49, 48, 46, 48, 46, 48, 46, 48, 47, 56]⟩ : ByteArray) (⟨#[49, 48, 46, 48, 46, 48, 46, 48, 47, 56]⟩ : ByteArray)) (strEq_refl _) (by kernel_rfl)) ?_; clear hF; intro a hF
 refine Vp hF (.bool true) ?_; clear hF; intro a hF
 refine Vp hF (.bool true) ?_; clear hF; intro a hF
 refine L_nil ?_
 refine hK3 _ _ ?_
 refine wp_ret ?_
 refine ret1 hF (v := .bool true) rfl (resT (by kernel_rfl)) (by refine ⟨?_, hO.nil⟩; first | rfl | (simp [*]; done)) .ret (.inl rfl)

end Go.Proofs.YthellfigmpjhlaaGreatDoor
