import Derived.Test.YthellfigmpjhlaaGreatDoorCidrW
namespace Go.Proofs.YthellfigmpjhlaaGreatDoor
open Go Go.RowKit
set_option linter.unusedVariables false
set_option linter.unusedSimpArgs false
set_option maxRecDepth 20000 in
theorem cidr_Parse_n (I : List Nat) (ea : Nat → Addr) (s : ByteArray) (W : World) (hG : LibW W) (hE : Errs I ea W) (h3 : I.contains 3 = true) (h0 : I.contains 0 = true) (h7 : I.contains 7 = true) (hs : s.size ≤ 1000000) (ha : asc s) (hp : parseIp (slH s) = none) : Ret Tryz.prog 51 #[.string s] W fun v W' => v = retCd ea (parseCd s) ∧ Own W noX [] W' := by
  refine enter Tryz.func51 rfl (n := 72) rfl (by kernel_rfl) (E0 := [(0, .string s)]) (by kernel_rfl) ?_
  intro a hF; have hO := Own.start W noX
  refine wp_seq_k fun K1 hK1 => ?_
  refine wp_region_lit ?_
  refine L_new hF hO (by kernel_rfl) (by kernel_rfl) (vf := fun b => .pointer (some ⟨b, 0, none⟩)) (ob := .cells #[.bool false, .int .u8 0, .int .u8 0, .int .u8 0, .int .u8 0, .int .u8 0, .int .u8 0, .int .u8 0, .int .u8 0, .int .u8 0, .int .u8 0, .int .u8 0, .int .u8 0, .int .u8 0, .int .u8 0, .int .u8 0, .int .u8 0, .int .i64 0] 68) (by kernel_rfl) (by kernel_rfl) ?_
  clear hF hO; intro b1 W1 a hO hF
  refine Vp hF (.nilIface) ?_; clear hF; intro a hF
  refine L_nil ?_
  refine hK1 _ _ ?_
  refine wp_seq_k fun K2 hK2 => ?_
  refine wp_region_lit ?_
  refine Vp hF (.string s) ?_; clear hF; intro a hF
  refine Lc hF (slash_ret s W1 (hG.own hO) (by omega)) ?_
  clear hF; rintro _ W2 a ⟨rfl, hk⟩ hF
  replace hO := hO.call0 hk; clear hk
  refine Vp hF (.tuple #[.string (slH s), .string (slT s), .bool (slY s)]) ?_; clear hF; intro a hF
  refine Vp hF (.string (slH s)) ?_; clear hF; intro a hF
  refine Vp hF (.string (slT s)) ?_; clear hF; intro a hF
  refine Vp hF (.bool (slY s)) ?_; clear hF; intro a hF
  refine Vp hF (.string (slH s)) ?_; clear hF; intro a hF
  refine Vp hF (.string (slT s)) ?_; clear hF; intro a hF
  refine Vp hF (.bool (slY s)) ?_; clear hF; intro a hF
  refine L_nil ?_
  refine hK2 _ _ ?_
  refine wp_seq_k fun K3 hK3 => ?_
  refine wp_region_lit ?_
  refine Vp hF (.string (slH s)) ?_; clear hF; intro a hF
  refine Lc hF ((addr_Parse I ea (slH s) W2 (hG.own hO) (hE.own hO) h3 (by have := slH_size s; omega) (asc_slH ha)).mono fun v W' h => (⟨by rw [h.1, hp]; rfl, h.2⟩ : v = .tuple #[ipV noIp, errV ea 3] ∧ Own W2 noX [] W')) ?_
  clear hF; rintro _ W3 a ⟨rfl, hk⟩ hF
  replace hO := hO.call0 hk; clear hk
  refine Vp hF (.tuple #[ipV noIp, errV ea 3]) ?_; clear hF; intro a hF
  refine Vp hF (ipV noIp) ?_; clear hF; intro a hF
  refine Vp hF (errV ea 3) ?_; clear hF; intro a hF
  refine L_new hF hO (by kernel_rfl) (by kernel_rfl) (vf := fun b => .pointer (some ⟨b, 0, none⟩)) (ob := .cells #[.bool false, .int .u8 0, .int .u8 0, .int .u8 0, .int .u8 0, .int .u8 0, .int .u8 0, .int .u8 0, .int .u8 0, .int .u8 0, .int .u8 0, .int .u8 0, .int .u8 0, .int .u8 0, .int .u8 0, .int .u8 0, .int .u8 0] 33) (by kernel_rfl) (by kernel_rfl) ?_
  clear hF hO; intro b2 W4 a hO hF
  obtain ⟨W5, hst, hO1⟩ := run_storeAt (P := Tryz.prog) (k := 17) (T := 33) (off := 0) (v := ipV noIp) (cs := #[.bool false, .int .u8 0, .int .u8 0, .int .u8 0, .int .u8 0, .int .u8 0, .int .u8 0, .int .u8 0, .int .u8 0, .int .u8 0, .int .u8 0, .int .u8 0, .int .u8 0, .int .u8 0, .int .u8 0, .int .u8 0, .int .u8 0]) (cs' := #[.bool noIp.six, .int .u8 ((noIp.b0.toNat : Int)), .int .u8 ((noIp.b1.toNat : Int)), .int .u8 ((noIp.b2.toNat : Int)), .int .u8 ((noIp.b3.toNat : Int)), .int .u8 ((noIp.b4.toNat : Int)), .int .u8 ((noIp.b5.toNat : Int)), .int .u8 ((noIp.b6.toNat : Int)), .int .u8 ((noIp.b7.toNat : Int)), .int .u8 ((noIp.b8.toNat : Int)), .int .u8 ((noIp.b9.toNat : Int)), .int .u8 ((noIp.b10.toNat : Int)), .int .u8 ((noIp.b11.toNat : Int)), .int .u8 ((noIp.b12.toNat : Int)), .int .u8 ((noIp.b13.toNat : Int)), .int .u8 ((noIp.b14.toNat : Int)), .int .u8 ((noIp.b15.toNat : Int))]) hO (by kernel_rfl) (by kernel_rfl) (by kernel_rfl) (Nat.le_of_ble_eq_true (by kernel_rfl)) (by kernel_rfl) (.head _)
  refine L_skip hF (by kernel_rfl) (by kernel_rfl) (x_store (p := .pointer (some ⟨b2, 0, none⟩)) (v := ipV noIp) rfl (by kernel_rfl) (by kernel_rfl) hst) (by kernel_rfl) ?_
  clear hst hF; intro a hF; replace hO := hO1; clear hO1
  refine Vp hF (errV ea 3) ?_; clear hF; intro a hF
  refine L_nil ?_
  refine hK3 _ _ ?_
  refine wp_seq_k fun K4 hK4 => ?_
  refine wp_region_lit ?_
  refine Vp hF (.string (slT s)) ?_; clear hF; intro a hF
  refine Lc hF (atoi_ret (slT s) W5 (hG.own hO) (by have := slT_size s; omega)) ?_
  clear hF; rintro _ W6 a ⟨te1, pe1, rfl, hk⟩ hF
  replace hO := hO.call0 hk; clear hk
  refine Vp hF (.tuple #[.int .i64 ((atoiN (slT s))), (if atoiOk (slT s) then .nilIface else .iface te1 pe1)]) ?_; clear hF; intro a hF
  refine Vp hF (.int .i64 ((atoiN (slT s)))) ?_; clear hF; intro a hF
  refine Vp hF ((if atoiOk (slT s) then .nilIface else .iface te1 pe1)) ?_; clear hF; intro a hF
  refine Vp hF (.int .i64 ((atoiN (slT s)))) ?_; clear hF; intro a hF
  refine Vp hF ((if atoiOk (slT s) then .nilIface else .iface te1 pe1)) ?_; clear hF; intro a hF
  refine L_nil ?_
  refine hK4 _ _ ?_
  refine wp_seq_k fun K5 hK5 => ?_
  refine wp_block ?_
  refine wp_seq_k fun K6 hK6 => ?_
  refine wp_region_lit ?_
  refine Vp hF (.bool (slY s)) ?_; clear hF; intro a hF
  refine Vp hF (.bool (!(slY s))) ?_; clear hF; intro a hF
  refine Vp hF (.bool (!(slY s))) ?_; clear hF; intro a hF
  cases q1 : (slY s : Bool)
  ·
    replace hF := hF.know (d := 30) (v' := .bool true) (by kernel_rfl) (congrArg Value.bool (notT q1))
    refine Lo hF ?_; clear hF; intro a hF
    refine Lo hF ?_; clear hF; intro a hF
    refine Vp hF (.bool true) ?_; clear hF; intro a hF
    refine Vp hF (.bool true) ?_; clear hF; intro a hF
    refine Lo hF ?_; clear hF; intro a hF
    refine Lo hF ?_; clear hF; intro a hF
    refine Vp hF (.bool true) ?_; clear hF; intro a hF
    refine Vp hF (.bool true) ?_; clear hF; intro a hF
    refine Lo hF ?_; clear hF; intro a hF
    refine Lo hF ?_; clear hF; intro a hF
    refine Vp hF (.bool true) ?_; clear hF; intro a hF
    refine Vp hF (.bool true) ?_; clear hF; intro a hF
    refine Lo hF ?_; clear hF; intro a hF
    refine Lo hF ?_; clear hF; intro a hF
    refine Vp hF (.bool true) ?_; clear hF; intro a hF
    refine Vp hF (.bool true) ?_; clear hF; intro a hF
    refine Lo hF ?_; clear hF; intro a hF
    refine Lo hF ?_; clear hF; intro a hF
    refine Lo hF ?_; clear hF; intro a hF
    refine Lo hF ?_; clear hF; intro a hF
    refine Vp hF (.bool true) ?_; clear hF; intro a hF
    refine Vp hF (.bool true) ?_; clear hF; intro a hF
    refine L_nil ?_
    refine hK6 _ _ ?_
    refine cond_t hF (by kernel_rfl) (by kernel_rfl) ?_
    refine wp_seq_k fun K7 hK7 => ?_
    refine A_start (fun Wx => Own W noX [.blk b2 (.cells #[.bool noIp.six, .int .u8 ((noIp.b0.toNat : Int)), .int .u8 ((noIp.b1.toNat : Int)), .int .u8 ((noIp.b2.toNat : Int)), .int .u8 ((noIp.b3.toNat : Int)), .int .u8 ((noIp.b4.toNat : Int)), .int .u8 ((noIp.b5.toNat : Int)), .int .u8 ((noIp.b6.toNat : Int)), .int .u8 ((noIp.b7.toNat : Int)), .int .u8 ((noIp.b8.toNat : Int)), .int .u8 ((noIp.b9.toNat : Int)), .int .u8 ((noIp.b10.toNat : Int)), .int .u8 ((noIp.b11.toNat : Int)), .int .u8 ((noIp.b12.toNat : Int)), .int .u8 ((noIp.b13.toNat : Int)), .int .u8 ((noIp.b14.toNat : Int)), .int .u8 ((noIp.b15.toNat : Int))] 33 (0, 0))] Wx) (by kernel_rfl) ?_
    replace hO := hO.drewN 1
    generalize hWd : ({ W6 with drawn := W6.drawn + 1 } : World) = W6_d at hO ⊢; clear hWd
    refine Tk 0 hF (.agg #[.bool false, .int .u8 0, .int .u8 0, .int .u8 0, .int .u8 0, .int .u8 0, .int .u8 0, .int .u8 0, .int .u8 0, .int .u8 0, .int .u8 0, .int .u8 0, .int .u8 0, .int .u8 0, .int .u8 0, .int .u8 0, .int .u8 0, .int .i64 0]) (fun Wx _ => by kernel_rfl) (hO.sub (.cons_cons _ (List.nil_sublist _))) ?_; clear hF; intro a hF
    refine Tk 1 hF (errV ea 3) (fun Wx hO => x_load (p := .pointer (some ⟨4, 0, none⟩)) rfl (by kernel_rfl) (hE.load hO 3 4 h3 (by kernel_rfl))) (hO.sub (.cons_cons _ (List.nil_sublist _))) ?_; clear hF; intro a hF
    refine A_one (i := 2) (listed' := #[true, true, true, false]) (by kernel_rfl) rfl (by kernel_rfl) ?_
    obtain ⟨W7, hst, hO1⟩ := run_storeAt (P := Tryz.prog) (k := 18) (T := 68) (off := 0) (v := .agg #[.bool false, .int .u8 0, .int .u8 0, .int .u8 0, .int .u8 0, .int .u8 0, .int .u8 0, .int .u8 0, .int .u8 0, .int .u8 0, .int .u8 0, .int .u8 0, .int .u8 0, .int .u8 0, .int .u8 0, .int .u8 0, .int .u8 0, .int .i64 0]) (cs := #[.bool false, .int .u8 0, .int .u8 0, .int .u8 0, .int .u8 0, .int .u8 0, .int .u8 0, .int .u8 0, .int .u8 0, .int .u8 0, .int .u8 0, .int .u8 0, .int .u8 0, .int .u8 0, .int .u8 0, .int .u8 0, .int .u8 0, .int .i64 0]) (cs' := #[.bool false, .int .u8 0, .int .u8 0, .int .u8 0, .int .u8 0, .int .u8 0, .int .u8 0, .int .u8 0, .int .u8 0, .int .u8 0, .int .u8 0, .int .u8 0, .int .u8 0, .int .u8 0, .int .u8 0, .int .u8 0, .int .u8 0, .int .i64 0]) hO (by kernel_rfl) (by kernel_rfl) (by kernel_rfl) (Nat.le_of_ble_eq_true (by kernel_rfl)) (by kernel_rfl) (.tail (.head _))
    refine OpK.skip hF (by kernel_rfl) (by kernel_rfl) (x_store (p := .pointer (some ⟨b1, 0, none⟩)) (v := .agg #[.bool false, .int .u8 0, .int .u8 0, .int .u8 0, .int .u8 0, .int .u8 0, .int .u8 0, .int .u8 0, .int .u8 0, .int .u8 0, .int .u8 0, .int .u8 0, .int .u8 0, .int .u8 0, .int .u8 0, .int .u8 0, .int .u8 0, .int .i64 0]) rfl (by kernel_rfl) (by kernel_rfl) hst) (by kernel_rfl) ?_
    clear hst hF; intro a hF; replace hO := hO1; clear hO1
    refine ⟨hO.sub (.cons_cons _ (List.nil_sublist _)), ?_⟩
    refine Tk 3 hF (errV ea 3) (fun Wx _ => by kernel_rfl) (hO.sub (.cons_cons _ (List.nil_sublist _))) ?_; clear hF; intro a hF
    refine A_done (by kernel_rfl) ?_
    refine hK7 _ _ ?_
    refine wp_ret ?_
    refine block_ret ?_
    refine then_ret ?_
    -- way 1: ¬ slY s
    refine ret2 hF (v := .agg #[.bool false, .int .u8 0, .int .u8 0, .int .u8 0, .int .u8 0, .int .u8 0, .int .u8 0, .int .u8 0, .int .u8 0, .int .u8 0, .int .u8 0, .int .u8 0, .int .u8 0, .int .u8 0, .int .u8 0, .int .u8 0, .int .u8 0, .int .i64 0]) (u := errV ea 3) rfl (resC (ad := ⟨b1, 0, none⟩) (by kernel_rfl) (run_loadA (k := 18) (by kernel_rfl) (by kernel_rfl) (hO.blk (List.mem_cons_of_mem _ List.mem_cons_self)) (by kernel_rfl) (by kernel_rfl))) (resT (by kernel_rfl)) (by refine ⟨?_, hO.nil⟩; first | (rw [parseCd_none hp]; rfl) | (rw [parseCd_no hp (.inl (by assumption))]; rfl) | (rw [parseCd_no hp (.inr (numOk_no (.inl (by assumption))))]; rfl) | (rw [parseCd_no hp (.inr (numOk_no (.inr (.inl (by assumption)))))]; rfl) | (rw [parseCd_no hp (.inr (numOk_no (.inr (.inr (.inl (by assumption))))))]; rfl) | (rw [parseCd_no hp (.inr (numOk_no (.inr (.inr (.inr (by assumption))))))]; rfl) | (rw [parseCd_yes hp (by assumption) (numOk_yes (by assumption) (by assumption) (by assumption) (Decidable.of_not_not (by assumption)))]; first | (rw [if_neg (by simp [*])]; rfl) | (rw [if_pos (by assumption), if_neg (by assumption)]; rfl) | (rw [if_pos (by assumption), if_pos (Decidable.of_not_not (by assumption))]; rfl))) .ret (.inl rfl)
  ·
    replace hF := hF.know (d := 30) (v' := .bool false) (by kernel_rfl) (congrArg Value.bool (notF q1))
    refine Vp hF (errV ea 3) ?_; clear hF; intro a hF
    refine Vp hF (.bool true) ?_; clear hF; intro a hF
    refine Vp hF (.bool true) ?_; clear hF; intro a hF
    refine Vp hF (.bool true) ?_; clear hF; intro a hF
    refine Lo hF ?_; clear hF; intro a hF
    refine Lo hF ?_; clear hF; intro a hF
    refine Vp hF (.bool true) ?_; clear hF; intro a hF
    refine Vp hF (.bool true) ?_; clear hF; intro a hF
    refine Lo hF ?_; clear hF; intro a hF
    refine Lo hF ?_; clear hF; intro a hF
    refine Vp hF (.bool true) ?_; clear hF; intro a hF
    refine Vp hF (.bool true) ?_; clear hF; intro a hF
    refine Lo hF ?_; clear hF; intro a hF
    refine Lo hF ?_; clear hF; intro a hF
    refine Vp hF (.bool true) ?_; clear hF; intro a hF
    refine Vp hF (.bool true) ?_; clear hF; intro a hF
    refine Lo hF ?_; clear hF; intro a hF
    refine Lo hF ?_; clear hF; intro a hF
    refine Lo hF ?_; clear hF; intro a hF
    refine Lo hF ?_; clear hF; intro a hF
    refine Vp hF (.bool true) ?_; clear hF; intro a hF
    refine Vp hF (.bool true) ?_; clear hF; intro a hF
    refine L_nil ?_
    refine hK6 _ _ ?_
    refine cond_t hF (by kernel_rfl) (by kernel_rfl) ?_
    refine wp_seq_k fun K8 hK8 => ?_
    refine A_start (fun Wx => Own W noX [.blk b2 (.cells #[.bool noIp.six, .int .u8 ((noIp.b0.toNat : Int)), .int .u8 ((noIp.b1.toNat : Int)), .int .u8 ((noIp.b2.toNat : Int)), .int .u8 ((noIp.b3.toNat : Int)), .int .u8 ((noIp.b4.toNat : Int)), .int .u8 ((noIp.b5.toNat : Int)), .int .u8 ((noIp.b6.toNat : Int)), .int .u8 ((noIp.b7.toNat : Int)), .int .u8 ((noIp.b8.toNat : Int)), .int .u8 ((noIp.b9.toNat : Int)), .int .u8 ((noIp.b10.toNat : Int)), .int .u8 ((noIp.b11.toNat : Int)), .int .u8 ((noIp.b12.toNat : Int)), .int .u8 ((noIp.b13.toNat : Int)), .int .u8 ((noIp.b14.toNat : Int)), .int .u8 ((noIp.b15.toNat : Int))] 33 (0, 0))] Wx) (by kernel_rfl) ?_
    replace hO := hO.drewN 1
    generalize hWd : ({ W6 with drawn := W6.drawn + 1 } : World) = W6_d at hO ⊢; clear hWd
    refine Tk 0 hF (.agg #[.bool false, .int .u8 0, .int .u8 0, .int .u8 0, .int .u8 0, .int .u8 0, .int .u8 0, .int .u8 0, .int .u8 0, .int .u8 0, .int .u8 0, .int .u8 0, .int .u8 0, .int .u8 0, .int .u8 0, .int .u8 0, .int .u8 0, .int .i64 0]) (fun Wx _ => by kernel_rfl) (hO.sub (.cons_cons _ (List.nil_sublist _))) ?_; clear hF; intro a hF
    refine Tk 1 hF (errV ea 3) (fun Wx hO => x_load (p := .pointer (some ⟨4, 0, none⟩)) rfl (by kernel_rfl) (hE.load hO 3 4 h3 (by kernel_rfl))) (hO.sub (.cons_cons _ (List.nil_sublist _))) ?_; clear hF; intro a hF
    refine A_one (i := 2) (listed' := #[true, true, true, false]) (by kernel_rfl) rfl (by kernel_rfl) ?_
    obtain ⟨W8, hst, hO1⟩ := run_storeAt (P := Tryz.prog) (k := 18) (T := 68) (off := 0) (v := .agg #[.bool false, .int .u8 0, .int .u8 0, .int .u8 0, .int .u8 0, .int .u8 0, .int .u8 0, .int .u8 0, .int .u8 0, .int .u8 0, .int .u8 0, .int .u8 0, .int .u8 0, .int .u8 0, .int .u8 0, .int .u8 0, .int .u8 0, .int .i64 0]) (cs := #[.bool false, .int .u8 0, .int .u8 0, .int .u8 0, .int .u8 0, .int .u8 0, .int .u8 0, .int .u8 0, .int .u8 0, .int .u8 0, .int .u8 0, .int .u8 0, .int .u8 0, .int .u8 0, .int .u8 0, .int .u8 0, .int .u8 0, .int .i64 0]) (cs' := #[.bool false, .int .u8 0, .int .u8 0, .int .u8 0, .int .u8 0, .int .u8 0, .int .u8 0, .int .u8 0, .int .u8 0, .int .u8 0, .int .u8 0, .int .u8 0, .int .u8 0, .int .u8 0, .int .u8 0, .int .u8 0, .int .u8 0, .int .i64 0]) hO (by kernel_rfl) (by kernel_rfl) (by kernel_rfl) (Nat.le_of_ble_eq_true (by kernel_rfl)) (by kernel_rfl) (.tail (.head _))
    refine OpK.skip hF (by kernel_rfl) (by kernel_rfl) (x_store (p := .pointer (some ⟨b1, 0, none⟩)) (v := .agg #[.bool false, .int .u8 0, .int .u8 0, .int .u8 0, .int .u8 0, .int .u8 0, .int .u8 0, .int .u8 0, .int .u8 0, .int .u8 0, .int .u8 0, .int .u8 0, .int .u8 0, .int .u8 0, .int .u8 0, .int .u8 0, .int .u8 0, .int .i64 0]) rfl (by kernel_rfl) (by kernel_rfl) hst) (by kernel_rfl) ?_
    clear hst hF; intro a hF; replace hO := hO1; clear hO1
    refine ⟨hO.sub (.cons_cons _ (List.nil_sublist _)), ?_⟩
    refine Tk 3 hF (errV ea 3) (fun Wx _ => by kernel_rfl) (hO.sub (.cons_cons _ (List.nil_sublist _))) ?_; clear hF; intro a hF
    refine A_done (by kernel_rfl) ?_
    refine hK8 _ _ ?_
    refine wp_ret ?_
    refine block_ret ?_
    refine then_ret ?_
    -- way 2: slY s
    refine ret2 hF (v := .agg #[.bool false, .int .u8 0, .int .u8 0, .int .u8 0, .int .u8 0, .int .u8 0, .int .u8 0, .int .u8 0, .int .u8 0, .int .u8 0, .int .u8 0, .int .u8 0, .int .u8 0, .int .u8 0, .int .u8 0, .int .u8 0, .int .u8 0, .int .i64 0]) (u := errV ea 3) rfl (resC (ad := ⟨b1, 0, none⟩) (by kernel_rfl) (run_loadA (k := 18) (by kernel_rfl) (by kernel_rfl) (hO.blk (List.mem_cons_of_mem _ List.mem_cons_self)) (by kernel_rfl) (by kernel_rfl))) (resT (by kernel_rfl)) (by refine ⟨?_, hO.nil⟩; first | (rw [parseCd_none hp]; rfl) | (rw [parseCd_no hp (.inl (by assumption))]; rfl) | (rw [parseCd_no hp (.inr (numOk_no (.inl (by assumption))))]; rfl) | (rw [parseCd_no hp (.inr (numOk_no (.inr (.inl (by assumption)))))]; rfl) | (rw [parseCd_no hp (.inr (numOk_no (.inr (.inr (.inl (by assumption))))))]; rfl) | (rw [parseCd_no hp (.inr (numOk_no (.inr (.inr (.inr (by assumption))))))]; rfl) | (rw [parseCd_yes hp (by assumption) (numOk_yes (by assumption) (by assumption) (by assumption) (Decidable.of_not_not (by assumption)))]; first | (rw [if_neg (by simp [*])]; rfl) | (rw [if_pos (by assumption), if_neg (by assumption)]; rfl) | (rw [if_pos (by assumption), if_pos (Decidable.of_not_not (by assumption))]; rfl))) .ret (.inl rfl)

set_option maxRecDepth 20000 in
theorem cidr_Parse_s (I : List Nat) (ea : Nat → Addr) (s : ByteArray) (x0 : Ip) (W : World) (hG : LibW W) (hE : Errs I ea W) (h3 : I.contains 3 = true) (h0 : I.contains 0 = true) (h7 : I.contains 7 = true) (hs : s.size ≤ 1000000) (ha : asc s) (hp : parseIp (slH s) = some x0) : Ret Tryz.prog 51 #[.string s] W fun v W' => v = retCd ea (parseCd s) ∧ Own W noX [] W' := by
  refine enter Tryz.func51 rfl (n := 72) rfl (by kernel_rfl) (E0 := [(0, .string s)]) (by kernel_rfl) ?_
  intro a hF; have hO := Own.start W noX
  refine wp_seq_k fun K1 hK1 => ?_
  refine wp_region_lit ?_
  refine L_new hF hO (by kernel_rfl) (by kernel_rfl) (vf := fun b => .pointer (some ⟨b, 0, none⟩)) (ob := .cells #[.bool false, .int .u8 0, .int .u8 0, .int .u8 0, .int .u8 0, .int .u8 0, .int .u8 0, .int .u8 0, .int .u8 0, .int .u8 0, .int .u8 0, .int .u8 0, .int .u8 0, .int .u8 0, .int .u8 0, .int .u8 0, .int .u8 0, .int .i64 0] 68) (by kernel_rfl) (by kernel_rfl) ?_
  clear hF hO; intro b1 W1 a hO hF
  refine Vp hF (.nilIface) ?_; clear hF; intro a hF
  refine L_nil ?_
  refine hK1 _ _ ?_
  refine wp_seq_k fun K2 hK2 => ?_
  refine wp_region_lit ?_
  refine Vp hF (.string s) ?_; clear hF; intro a hF
  refine Lc hF (slash_ret s W1 (hG.own hO) (by omega)) ?_
  clear hF; rintro _ W2 a ⟨rfl, hk⟩ hF
  replace hO := hO.call0 hk; clear hk
  refine Vp hF (.tuple #[.string (slH s), .string (slT s), .bool (slY s)]) ?_; clear hF; intro a hF
  refine Vp hF (.string (slH s)) ?_; clear hF; intro a hF
  refine Vp hF (.string (slT s)) ?_; clear hF; intro a hF
  refine Vp hF (.bool (slY s)) ?_; clear hF; intro a hF
  refine Vp hF (.string (slH s)) ?_; clear hF; intro a hF
  refine Vp hF (.string (slT s)) ?_; clear hF; intro a hF
  refine Vp hF (.bool (slY s)) ?_; clear hF; intro a hF
  refine L_nil ?_
  refine hK2 _ _ ?_
  refine wp_seq_k fun K3 hK3 => ?_
  refine wp_region_lit ?_
  refine Vp hF (.string (slH s)) ?_; clear hF; intro a hF
  refine Lc hF ((addr_Parse I ea (slH s) W2 (hG.own hO) (hE.own hO) h3 (by have := slH_size s; omega) (asc_slH ha)).mono fun v W' h => (⟨by rw [h.1, hp]; rfl, h.2⟩ : v = .tuple #[ipV x0, .nilIface] ∧ Own W2 noX [] W')) ?_
  clear hF; rintro _ W3 a ⟨rfl, hk⟩ hF
  replace hO := hO.call0 hk; clear hk
  refine Vp hF (.tuple #[ipV x0, .nilIface]) ?_; clear hF; intro a hF
  refine Vp hF (ipV x0) ?_; clear hF; intro a hF
  refine Vp hF (.nilIface) ?_; clear hF; intro a hF
  refine L_new hF hO (by kernel_rfl) (by kernel_rfl) (vf := fun b => .pointer (some ⟨b, 0, none⟩)) (ob := .cells #[.bool false, .int .u8 0, .int .u8 0, .int .u8 0, .int .u8 0, .int .u8 0, .int .u8 0, .int .u8 0, .int .u8 0, .int .u8 0, .int .u8 0, .int .u8 0, .int .u8 0, .int .u8 0, .int .u8 0, .int .u8 0, .int .u8 0] 33) (by kernel_rfl) (by kernel_rfl) ?_
  clear hF hO; intro b2 W4 a hO hF
  obtain ⟨W5, hst, hO1⟩ := run_storeAt (P := Tryz.prog) (k := 17) (T := 33) (off := 0) (v := ipV x0) (cs := #[.bool false, .int .u8 0, .int .u8 0, .int .u8 0, .int .u8 0, .int .u8 0, .int .u8 0, .int .u8 0, .int .u8 0, .int .u8 0, .int .u8 0, .int .u8 0, .int .u8 0, .int .u8 0, .int .u8 0, .int .u8 0, .int .u8 0]) (cs' := #[.bool x0.six, .int .u8 ((x0.b0.toNat : Int)), .int .u8 ((x0.b1.toNat : Int)), .int .u8 ((x0.b2.toNat : Int)), .int .u8 ((x0.b3.toNat : Int)), .int .u8 ((x0.b4.toNat : Int)), .int .u8 ((x0.b5.toNat : Int)), .int .u8 ((x0.b6.toNat : Int)), .int .u8 ((x0.b7.toNat : Int)), .int .u8 ((x0.b8.toNat : Int)), .int .u8 ((x0.b9.toNat : Int)), .int .u8 ((x0.b10.toNat : Int)), .int .u8 ((x0.b11.toNat : Int)), .int .u8 ((x0.b12.toNat : Int)), .int .u8 ((x0.b13.toNat : Int)), .int .u8 ((x0.b14.toNat : Int)), .int .u8 ((x0.b15.toNat : Int))]) hO (by kernel_rfl) (by kernel_rfl) (by kernel_rfl) (Nat.le_of_ble_eq_true (by kernel_rfl)) (by kernel_rfl) (.head _)
  refine L_skip hF (by kernel_rfl) (by kernel_rfl) (x_store (p := .pointer (some ⟨b2, 0, none⟩)) (v := ipV x0) rfl (by kernel_rfl) (by kernel_rfl) hst) (by kernel_rfl) ?_
  clear hst hF; intro a hF; replace hO := hO1; clear hO1
  refine Vp hF (.nilIface) ?_; clear hF; intro a hF
  refine L_nil ?_
  refine hK3 _ _ ?_
  refine wp_seq_k fun K4 hK4 => ?_
  refine wp_region_lit ?_
  refine Vp hF (.string (slT s)) ?_; clear hF; intro a hF
  refine Lc hF (atoi_ret (slT s) W5 (hG.own hO) (by have := slT_size s; omega)) ?_
  clear hF; rintro _ W6 a ⟨te1, pe1, rfl, hk⟩ hF
  replace hO := hO.call0 hk; clear hk
  refine Vp hF (.tuple #[.int .i64 ((atoiN (slT s))), (if atoiOk (slT s) then .nilIface else .iface te1 pe1)]) ?_; clear hF; intro a hF
  refine Vp hF (.int .i64 ((atoiN (slT s)))) ?_; clear hF; intro a hF
  refine Vp hF ((if atoiOk (slT s) then .nilIface else .iface te1 pe1)) ?_; clear hF; intro a hF
  refine Vp hF (.int .i64 ((atoiN (slT s)))) ?_; clear hF; intro a hF
  refine Vp hF ((if atoiOk (slT s) then .nilIface else .iface te1 pe1)) ?_; clear hF; intro a hF
  refine L_nil ?_
  refine hK4 _ _ ?_
  refine wp_seq_k fun K5 hK5 => ?_
  refine wp_block ?_
  refine wp_seq_k fun K6 hK6 => ?_
  refine wp_region_lit ?_
  refine Vp hF (.bool (slY s)) ?_; clear hF; intro a hF
  refine Vp hF (.bool (!(slY s))) ?_; clear hF; intro a hF
  refine Vp hF (.bool (!(slY s))) ?_; clear hF; intro a hF
  cases q1 : (slY s : Bool)
  ·
    replace hF := hF.know (d := 30) (v' := .bool true) (by kernel_rfl) (congrArg Value.bool (notT q1))
    refine Lo hF ?_; clear hF; intro a hF
    refine Lo hF ?_; clear hF; intro a hF
    refine Vp hF (.bool true) ?_; clear hF; intro a hF
    refine Vp hF (.bool true) ?_; clear hF; intro a hF
    refine Lo hF ?_; clear hF; intro a hF
    refine Lo hF ?_; clear hF; intro a hF
    refine Vp hF (.bool true) ?_; clear hF; intro a hF
    refine Vp hF (.bool true) ?_; clear hF; intro a hF
    refine Lo hF ?_; clear hF; intro a hF
    refine Lo hF ?_; clear hF; intro a hF
    refine Vp hF (.bool true) ?_; clear hF; intro a hF
    refine Vp hF (.bool true) ?_; clear hF; intro a hF
    refine Lo hF ?_; clear hF; intro a hF
    refine Lo hF ?_; clear hF; intro a hF
    refine Vp hF (.bool true) ?_; clear hF; intro a hF
    refine Vp hF (.bool true) ?_; clear hF; intro a hF
    refine Lo hF ?_; clear hF; intro a hF
    refine Lo hF ?_; clear hF; intro a hF
    refine Lo hF ?_; clear hF; intro a hF
    refine Lo hF ?_; clear hF; intro a hF
    refine Vp hF (.bool true) ?_; clear hF; intro a hF
    refine Vp hF (.bool true) ?_; clear hF; intro a hF
    refine L_nil ?_
    refine hK6 _ _ ?_
    refine cond_t hF (by kernel_rfl) (by kernel_rfl) ?_
    refine wp_seq_k fun K7 hK7 => ?_
    refine A_start (fun Wx => Own W noX [.blk b2 (.cells #[.bool x0.six, .int .u8 ((x0.b0.toNat : Int)), .int .u8 ((x0.b1.toNat : Int)), .int .u8 ((x0.b2.toNat : Int)), .int .u8 ((x0.b3.toNat : Int)), .int .u8 ((x0.b4.toNat : Int)), .int .u8 ((x0.b5.toNat : Int)), .int .u8 ((x0.b6.toNat : Int)), .int .u8 ((x0.b7.toNat : Int)), .int .u8 ((x0.b8.toNat : Int)), .int .u8 ((x0.b9.toNat : Int)), .int .u8 ((x0.b10.toNat : Int)), .int .u8 ((x0.b11.toNat : Int)), .int .u8 ((x0.b12.toNat : Int)), .int .u8 ((x0.b13.toNat : Int)), .int .u8 ((x0.b14.toNat : Int)), .int .u8 ((x0.b15.toNat : Int))] 33 (0, 0))] Wx) (by kernel_rfl) ?_
    replace hO := hO.drewN 1
    generalize hWd : ({ W6 with drawn := W6.drawn + 1 } : World) = W6_d at hO ⊢; clear hWd
    refine Tk 0 hF (.agg #[.bool false, .int .u8 0, .int .u8 0, .int .u8 0, .int .u8 0, .int .u8 0, .int .u8 0, .int .u8 0, .int .u8 0, .int .u8 0, .int .u8 0, .int .u8 0, .int .u8 0, .int .u8 0, .int .u8 0, .int .u8 0, .int .u8 0, .int .i64 0]) (fun Wx _ => by kernel_rfl) (hO.sub (.cons_cons _ (List.nil_sublist _))) ?_; clear hF; intro a hF
    refine Tk 1 hF (errV ea 3) (fun Wx hO => x_load (p := .pointer (some ⟨4, 0, none⟩)) rfl (by kernel_rfl) (hE.load hO 3 4 h3 (by kernel_rfl))) (hO.sub (.cons_cons _ (List.nil_sublist _))) ?_; clear hF; intro a hF
    refine A_one (i := 2) (listed' := #[true, true, true, false]) (by kernel_rfl) rfl (by kernel_rfl) ?_
    obtain ⟨W7, hst, hO1⟩ := run_storeAt (P := Tryz.prog) (k := 18) (T := 68) (off := 0) (v := .agg #[.bool false, .int .u8 0, .int .u8 0, .int .u8 0, .int .u8 0, .int .u8 0, .int .u8 0, .int .u8 0, .int .u8 0, .int .u8 0, .int .u8 0, .int .u8 0, .int .u8 0, .int .u8 0, .int .u8 0, .int .u8 0, .int .u8 0, .int .i64 0]) (cs := #[.bool false, .int .u8 0, .int .u8 0, .int .u8 0, .int .u8 0, .int .u8 0, .int .u8 0, .int .u8 0, .int .u8 0, .int .u8 0, .int .u8 0, .int .u8 0, .int .u8 0, .int .u8 0, .int .u8 0, .int .u8 0, .int .u8 0, .int .i64 0]) (cs' := #[.bool false, .int .u8 0, .int .u8 0, .int .u8 0, .int .u8 0, .int .u8 0, .int .u8 0, .int .u8 0, .int .u8 0, .int .u8 0, .int .u8 0, .int .u8 0, .int .u8 0, .int .u8 0, .int .u8 0, .int .u8 0, .int .u8 0, .int .i64 0]) hO (by kernel_rfl) (by kernel_rfl) (by kernel_rfl) (Nat.le_of_ble_eq_true (by kernel_rfl)) (by kernel_rfl) (.tail (.head _))
    refine OpK.skip hF (by kernel_rfl) (by kernel_rfl) (x_store (p := .pointer (some ⟨b1, 0, none⟩)) (v := .agg #[.bool false, .int .u8 0, .int .u8 0, .int .u8 0, .int .u8 0, .int .u8 0, .int .u8 0, .int .u8 0, .int .u8 0, .int .u8 0, .int .u8 0, .int .u8 0, .int .u8 0, .int .u8 0, .int .u8 0, .int .u8 0, .int .u8 0, .int .i64 0]) rfl (by kernel_rfl) (by kernel_rfl) hst) (by kernel_rfl) ?_
    clear hst hF; intro a hF; replace hO := hO1; clear hO1
    refine ⟨hO.sub (.cons_cons _ (List.nil_sublist _)), ?_⟩
    refine Tk 3 hF (errV ea 3) (fun Wx _ => by kernel_rfl) (hO.sub (.cons_cons _ (List.nil_sublist _))) ?_; clear hF; intro a hF
    refine A_done (by kernel_rfl) ?_
    refine hK7 _ _ ?_
    refine wp_ret ?_
    refine block_ret ?_
    refine then_ret ?_
    -- way 1: ¬ slY s
    refine ret2 hF (v := .agg #[.bool false, .int .u8 0, .int .u8 0, .int .u8 0, .int .u8 0, .int .u8 0, .int .u8 0, .int .u8 0, .int .u8 0, .int .u8 0, .int .u8 0, .int .u8 0, .int .u8 0, .int .u8 0, .int .u8 0, .int .u8 0, .int .u8 0, .int .i64 0]) (u := errV ea 3) rfl (resC (ad := ⟨b1, 0, none⟩) (by kernel_rfl) (run_loadA (k := 18) (by kernel_rfl) (by kernel_rfl) (hO.blk (List.mem_cons_of_mem _ List.mem_cons_self)) (by kernel_rfl) (by kernel_rfl))) (resT (by kernel_rfl)) (by refine ⟨?_, hO.nil⟩; first | (rw [parseCd_none hp]; rfl) | (rw [parseCd_no hp (.inl (by assumption))]; rfl) | (rw [parseCd_no hp (.inr (numOk_no (.inl (by assumption))))]; rfl) | (rw [parseCd_no hp (.inr (numOk_no (.inr (.inl (by assumption)))))]; rfl) | (rw [parseCd_no hp (.inr (numOk_no (.inr (.inr (.inl (by assumption))))))]; rfl) | (rw [parseCd_no hp (.inr (numOk_no (.inr (.inr (.inr (by assumption))))))]; rfl) | (rw [parseCd_yes hp (by assumption) (numOk_yes (by assumption) (by assumption) (by assumption) (Decidable.of_not_not (by assumption)))]; first | (rw [if_neg (by simp [*])]; rfl) | (rw [if_pos (by assumption), if_neg (by assumption)]; rfl) | (rw [if_pos (by assumption), if_pos (Decidable.of_not_not (by assumption))]; rfl))) .ret (.inl rfl)
  ·
    replace hF := hF.know (d := 30) (v' := .bool false) (by kernel_rfl) (congrArg Value.bool (notF q1))
    refine Vp hF (.nilIface) ?_; clear hF; intro a hF
    refine Vp hF (.bool false) ?_; clear hF; intro a hF
    refine Vp hF (.bool false) ?_; clear hF; intro a hF
    refine Vp hF (.bool false) ?_; clear hF; intro a hF
    refine Vp hF ((if atoiOk (slT s) then .nilIface else .iface te1 pe1)) ?_; clear hF; intro a hF
    refine Vr hF (.bool (!(atoiOk (slT s)))) (x_errNe (b := atoiOk (slT s)) (te := te1) (pe := pe1) rfl (by kernel_rfl) (by kernel_rfl) (by kernel_rfl) (by kernel_rfl)) ?_; clear hF; intro a hF
    refine Vp hF (.bool (!(atoiOk (slT s)))) ?_; clear hF; intro a hF
    refine Vp hF (.bool (!(atoiOk (slT s)))) ?_; clear hF; intro a hF
    cases q2 : (atoiOk (slT s) : Bool)
    ·
      replace hF := hF.know (d := 38) (v' := .bool true) (by kernel_rfl) (congrArg Value.bool (notT q2))
      refine Lo hF ?_; clear hF; intro a hF
      refine Lo hF ?_; clear hF; intro a hF
      refine Vp hF (.bool true) ?_; clear hF; intro a hF
      refine Vp hF (.bool true) ?_; clear hF; intro a hF
      refine Lo hF ?_; clear hF; intro a hF
      refine Lo hF ?_; clear hF; intro a hF
      refine Vp hF (.bool true) ?_; clear hF; intro a hF
      refine Vp hF (.bool true) ?_; clear hF; intro a hF
      refine Lo hF ?_; clear hF; intro a hF
      refine Lo hF ?_; clear hF; intro a hF
      refine Lo hF ?_; clear hF; intro a hF
      refine Lo hF ?_; clear hF; intro a hF
      refine Vp hF (.bool true) ?_; clear hF; intro a hF
      refine Vp hF (.bool true) ?_; clear hF; intro a hF
      refine L_nil ?_
      refine hK6 _ _ ?_
      refine cond_t hF (by kernel_rfl) (by kernel_rfl) ?_
      refine wp_seq_k fun K8 hK8 => ?_
      refine A_start (fun Wx => Own W noX [.blk b2 (.cells #[.bool x0.six, .int .u8 ((x0.b0.toNat : Int)), .int .u8 ((x0.b1.toNat : Int)), .int .u8 ((x0.b2.toNat : Int)), .int .u8 ((x0.b3.toNat : Int)), .int .u8 ((x0.b4.toNat : Int)), .int .u8 ((x0.b5.toNat : Int)), .int .u8 ((x0.b6.toNat : Int)), .int .u8 ((x0.b7.toNat : Int)), .int .u8 ((x0.b8.toNat : Int)), .int .u8 ((x0.b9.toNat : Int)), .int .u8 ((x0.b10.toNat : Int)), .int .u8 ((x0.b11.toNat : Int)), .int .u8 ((x0.b12.toNat : Int)), .int .u8 ((x0.b13.toNat : Int)), .int .u8 ((x0.b14.toNat : Int)), .int .u8 ((x0.b15.toNat : Int))] 33 (0, 0))] Wx) (by kernel_rfl) ?_
      replace hO := hO.drewN 1
      generalize hWd : ({ W6 with drawn := W6.drawn + 1 } : World) = W6_d at hO ⊢; clear hWd
      refine Tk 0 hF (.agg #[.bool false, .int .u8 0, .int .u8 0, .int .u8 0, .int .u8 0, .int .u8 0, .int .u8 0, .int .u8 0, .int .u8 0, .int .u8 0, .int .u8 0, .int .u8 0, .int .u8 0, .int .u8 0, .int .u8 0, .int .u8 0, .int .u8 0, .int .i64 0]) (fun Wx _ => by kernel_rfl) (hO.sub (.cons_cons _ (List.nil_sublist _))) ?_; clear hF; intro a hF
      refine Tk 1 hF (errV ea 3) (fun Wx hO => x_load (p := .pointer (some ⟨4, 0, none⟩)) rfl (by kernel_rfl) (hE.load hO 3 4 h3 (by kernel_rfl))) (hO.sub (.cons_cons _ (List.nil_sublist _))) ?_; clear hF; intro a hF
      refine A_one (i := 2) (listed' := #[true, true, true, false]) (by kernel_rfl) rfl (by kernel_rfl) ?_
      obtain ⟨W8, hst, hO1⟩ := run_storeAt (P := Tryz.prog) (k := 18) (T := 68) (off := 0) (v := .agg #[.bool false, .int .u8 0, .int .u8 0, .int .u8 0, .int .u8 0, .int .u8 0, .int .u8 0, .int .u8 0, .int .u8 0, .int .u8 0, .int .u8 0, .int .u8 0, .int .u8 0, .int .u8 0, .int .u8 0, .int .u8 0, .int .u8 0, .int .i64 0]) (cs := #[.bool false, .int .u8 0, .int .u8 0, .int .u8 0, .int .u8 0, .int .u8 0, .int .u8 0, .int .u8 0, .int .u8 0, .int .u8 0, .int .u8 0, .int .u8 0, .int .u8 0, .int .u8 0, .int .u8 0, .int .u8 0, .int .u8 0, .int .i64 0]) (cs' := #[.bool false, .int .u8 0, .int .u8 0, .int .u8 0, .int .u8 0, .int .u8 0, .int .u8 0, .int .u8 0, .int .u8 0, .int .u8 0, .int .u8 0, .int .u8 0, .int .u8 0, .int .u8 0, .int .u8 0, .int .u8 0, .int .u8 0, .int .i64 0]) hO (by kernel_rfl) (by kernel_rfl) (by kernel_rfl) (Nat.le_of_ble_eq_true (by kernel_rfl)) (by kernel_rfl) (.tail (.head _))
      refine OpK.skip hF (by kernel_rfl) (by kernel_rfl) (x_store (p := .pointer (some ⟨b1, 0, none⟩)) (v := .agg #[.bool false, .int .u8 0, .int .u8 0, .int .u8 0, .int .u8 0, .int .u8 0, .int .u8 0, .int .u8 0, .int .u8 0, .int .u8 0, .int .u8 0, .int .u8 0, .int .u8 0, .int .u8 0, .int .u8 0, .int .u8 0, .int .u8 0, .int .i64 0]) rfl (by kernel_rfl) (by kernel_rfl) hst) (by kernel_rfl) ?_
      clear hst hF; intro a hF; replace hO := hO1; clear hO1
      refine ⟨hO.sub (.cons_cons _ (List.nil_sublist _)), ?_⟩
      refine Tk 3 hF (errV ea 3) (fun Wx _ => by kernel_rfl) (hO.sub (.cons_cons _ (List.nil_sublist _))) ?_; clear hF; intro a hF
      refine A_done (by kernel_rfl) ?_
      refine hK8 _ _ ?_
      refine wp_ret ?_
      refine block_ret ?_
      refine then_ret ?_
      -- way 2: slY s; ¬ atoiOk (slT s)
      refine ret2 hF (v := .agg #[.bool false, .int .u8 0, .int .u8 0, .int .u8 0, .int .u8 0, .int .u8 0, .int .u8 0, .int .u8 0, .int .u8 0, .int .u8 0, .int .u8 0, .int .u8 0, .int .u8 0, .int .u8 0, .int .u8 0, .int .u8 0, .int .u8 0, .int .i64 0]) (u := errV ea 3) rfl (resC (ad := ⟨b1, 0, none⟩) (by kernel_rfl) (run_loadA (k := 18) (by kernel_rfl) (by kernel_rfl) (hO.blk (List.mem_cons_of_mem _ List.mem_cons_self)) (by kernel_rfl) (by kernel_rfl))) (resT (by kernel_rfl)) (by refine ⟨?_, hO.nil⟩; first | (rw [parseCd_none hp]; rfl) | (rw [parseCd_no hp (.inl (by assumption))]; rfl) | (rw [parseCd_no hp (.inr (numOk_no (.inl (by assumption))))]; rfl) | (rw [parseCd_no hp (.inr (numOk_no (.inr (.inl (by assumption)))))]; rfl) | (rw [parseCd_no hp (.inr (numOk_no (.inr (.inr (.inl (by assumption))))))]; rfl) | (rw [parseCd_no hp (.inr (numOk_no (.inr (.inr (.inr (by assumption))))))]; rfl) | (rw [parseCd_yes hp (by assumption) (numOk_yes (by assumption) (by assumption) (by assumption) (Decidable.of_not_not (by assumption)))]; first | (rw [if_neg (by simp [*])]; rfl) | (rw [if_pos (by assumption), if_neg (by assumption)]; rfl) | (rw [if_pos (by assumption), if_pos (Decidable.of_not_not (by assumption))]; rfl))) .ret (.inl rfl)
    ·
      replace hF := hF.know (d := 38) (v' := .bool false) (by kernel_rfl) (congrArg Value.bool (notF q2))
      refine Vp hF (.int .i64 ((atoiN (slT s)))) ?_; clear hF; intro a hF
      refine Vp hF (.bool (decide ((atoiN (slT s)) < 0))) ?_; clear hF; intro a hF
      refine Vp hF (.bool (decide ((atoiN (slT s)) < 0))) ?_; clear hF; intro a hF
      refine Vp hF (.bool (decide ((atoiN (slT s)) < 0))) ?_; clear hF; intro a hF
      by_cases q3 : (atoiN (slT s)) < 0
      ·
        replace hF := hF.know (d := 42) (v' := .bool true) (by kernel_rfl) (congrArg Value.bool (decide_eq_true q3))
        refine Lo hF ?_; clear hF; intro a hF
        refine Lo hF ?_; clear hF; intro a hF
        refine Vp hF (.bool true) ?_; clear hF; intro a hF
        refine Vp hF (.bool true) ?_; clear hF; intro a hF
        refine Lo hF ?_; clear hF; intro a hF
        refine Lo hF ?_; clear hF; intro a hF
        refine Lo hF ?_; clear hF; intro a hF
        refine Lo hF ?_; clear hF; intro a hF
        refine Vp hF (.bool true) ?_; clear hF; intro a hF
        refine Vp hF (.bool true) ?_; clear hF; intro a hF
        refine L_nil ?_
        refine hK6 _ _ ?_
        refine cond_t hF (by kernel_rfl) (by kernel_rfl) ?_
        refine wp_seq_k fun K9 hK9 => ?_
        refine A_start (fun Wx => Own W noX [.blk b2 (.cells #[.bool x0.six, .int .u8 ((x0.b0.toNat : Int)), .int .u8 ((x0.b1.toNat : Int)), .int .u8 ((x0.b2.toNat : Int)), .int .u8 ((x0.b3.toNat : Int)), .int .u8 ((x0.b4.toNat : Int)), .int .u8 ((x0.b5.toNat : Int)), .int .u8 ((x0.b6.toNat : Int)), .int .u8 ((x0.b7.toNat : Int)), .int .u8 ((x0.b8.toNat : Int)), .int .u8 ((x0.b9.toNat : Int)), .int .u8 ((x0.b10.toNat : Int)), .int .u8 ((x0.b11.toNat : Int)), .int .u8 ((x0.b12.toNat : Int)), .int .u8 ((x0.b13.toNat : Int)), .int .u8 ((x0.b14.toNat : Int)), .int .u8 ((x0.b15.toNat : Int))] 33 (0, 0))] Wx) (by kernel_rfl) ?_
        replace hO := hO.drewN 1
        generalize hWd : ({ W6 with drawn := W6.drawn + 1 } : World) = W6_d at hO ⊢; clear hWd
        refine Tk 0 hF (.agg #[.bool false, .int .u8 0, .int .u8 0, .int .u8 0, .int .u8 0, .int .u8 0, .int .u8 0, .int .u8 0, .int .u8 0, .int .u8 0, .int .u8 0, .int .u8 0, .int .u8 0, .int .u8 0, .int .u8 0, .int .u8 0, .int .u8 0, .int .i64 0]) (fun Wx _ => by kernel_rfl) (hO.sub (.cons_cons _ (List.nil_sublist _))) ?_; clear hF; intro a hF
        refine Tk 1 hF (errV ea 3) (fun Wx hO => x_load (p := .pointer (some ⟨4, 0, none⟩)) rfl (by kernel_rfl) (hE.load hO 3 4 h3 (by kernel_rfl))) (hO.sub (.cons_cons _ (List.nil_sublist _))) ?_; clear hF; intro a hF
        refine A_one (i := 2) (listed' := #[true, true, true, false]) (by kernel_rfl) rfl (by kernel_rfl) ?_
        obtain ⟨W9, hst, hO1⟩ := run_storeAt (P := Tryz.prog) (k := 18) (T := 68) (off := 0) (v := .agg #[.bool false, .int .u8 0, .int .u8 0, .int .u8 0, .int .u8 0, .int .u8 0, .int .u8 0, .int .u8 0, .int .u8 0, .int .u8 0, .int .u8 0, .int .u8 0, .int .u8 0, .int .u8 0, .int .u8 0, .int .u8 0, .int .u8 0, .int .i64 0]) (cs := #[.bool false, .int .u8 0, .int .u8 0, .int .u8 0, .int .u8 0, .int .u8 0, .int .u8 0, .int .u8 0, .int .u8 0, .int .u8 0, .int .u8 0, .int .u8 0, .int .u8 0, .int .u8 0, .int .u8 0, .int .u8 0, .int .u8 0, .int .i64 0]) (cs' := #[.bool false, .int .u8 0, .int .u8 0, .int .u8 0, .int .u8 0, .int .u8 0, .int .u8 0, .int .u8 0, .int .u8 0, .int .u8 0, .int .u8 0, .int .u8 0, .int .u8 0, .int .u8 0, .int .u8 0, .int .u8 0, .int .u8 0, .int .i64 0]) hO (by kernel_rfl) (by kernel_rfl) (by kernel_rfl) (Nat.le_of_ble_eq_true (by kernel_rfl)) (by kernel_rfl) (.tail (.head _))
        refine OpK.skip hF (by kernel_rfl) (by kernel_rfl) (x_store (p := .pointer (some ⟨b1, 0, none⟩)) (v := .agg #[.bool false, .int .u8 0, .int .u8 0, .int .u8 0, .int .u8 0, .int .u8 0, .int .u8 0, .int .u8 0, .int .u8 0, .int .u8 0, .int .u8 0, .int .u8 0, .int .u8 0, .int .u8 0, .int .u8 0, .int .u8 0, .int .u8 0, .int .i64 0]) rfl (by kernel_rfl) (by kernel_rfl) hst) (by kernel_rfl) ?_
        clear hst hF; intro a hF; replace hO := hO1; clear hO1
        refine ⟨hO.sub (.cons_cons _ (List.nil_sublist _)), ?_⟩
        refine Tk 3 hF (errV ea 3) (fun Wx _ => by kernel_rfl) (hO.sub (.cons_cons _ (List.nil_sublist _))) ?_; clear hF; intro a hF
        refine A_done (by kernel_rfl) ?_
        refine hK9 _ _ ?_
        refine wp_ret ?_
        refine block_ret ?_
        refine then_ret ?_
        -- way 3: slY s; atoiOk (slT s); (atoiN (slT s)) < 0
        refine ret2 hF (v := .agg #[.bool false, .int .u8 0, .int .u8 0, .int .u8 0, .int .u8 0, .int .u8 0, .int .u8 0, .int .u8 0, .int .u8 0, .int .u8 0, .int .u8 0, .int .u8 0, .int .u8 0, .int .u8 0, .int .u8 0, .int .u8 0, .int .u8 0, .int .i64 0]) (u := errV ea 3) rfl (resC (ad := ⟨b1, 0, none⟩) (by kernel_rfl) (run_loadA (k := 18) (by kernel_rfl) (by kernel_rfl) (hO.blk (List.mem_cons_of_mem _ List.mem_cons_self)) (by kernel_rfl) (by kernel_rfl))) (resT (by kernel_rfl)) (by refine ⟨?_, hO.nil⟩; first | (rw [parseCd_none hp]; rfl) | (rw [parseCd_no hp (.inl (by assumption))]; rfl) | (rw [parseCd_no hp (.inr (numOk_no (.inl (by assumption))))]; rfl) | (rw [parseCd_no hp (.inr (numOk_no (.inr (.inl (by assumption)))))]; rfl) | (rw [parseCd_no hp (.inr (numOk_no (.inr (.inr (.inl (by assumption))))))]; rfl) | (rw [parseCd_no hp (.inr (numOk_no (.inr (.inr (.inr (by assumption))))))]; rfl) | (rw [parseCd_yes hp (by assumption) (numOk_yes (by assumption) (by assumption) (by assumption) (Decidable.of_not_not (by assumption)))]; first | (rw [if_neg (by simp [*])]; rfl) | (rw [if_pos (by assumption), if_neg (by assumption)]; rfl) | (rw [if_pos (by assumption), if_pos (Decidable.of_not_not (by assumption))]; rfl))) .ret (.inl rfl)
      ·
        replace hF := hF.know (d := 42) (v' := .bool false) (by kernel_rfl) (congrArg Value.bool (decide_eq_false q3))
        refine Vp hF (.int .i64 ((atoiN (slT s)))) ?_; clear hF; intro a hF
        refine Vp hF (.bool (decide ((atoiN (slT s)) > 128))) ?_; clear hF; intro a hF
        refine Vp hF (.bool (decide ((atoiN (slT s)) > 128))) ?_; clear hF; intro a hF
        refine Vp hF (.bool (decide ((atoiN (slT s)) > 128))) ?_; clear hF; intro a hF
        by_cases q4 : (atoiN (slT s)) > 128
        ·
          replace hF := hF.know (d := 46) (v' := .bool true) (by kernel_rfl) (congrArg Value.bool (decide_eq_true q4))
          refine Lo hF ?_; clear hF; intro a hF
          refine Lo hF ?_; clear hF; intro a hF
          refine Lo hF ?_; clear hF; intro a hF
          refine Lo hF ?_; clear hF; intro a hF
          refine Vp hF (.bool true) ?_; clear hF; intro a hF
          refine Vp hF (.bool true) ?_; clear hF; intro a hF
          refine L_nil ?_
          refine hK6 _ _ ?_
          refine cond_t hF (by kernel_rfl) (by kernel_rfl) ?_
          refine wp_seq_k fun K10 hK10 => ?_
          refine A_start (fun Wx => Own W noX [.blk b2 (.cells #[.bool x0.six, .int .u8 ((x0.b0.toNat : Int)), .int .u8 ((x0.b1.toNat : Int)), .int .u8 ((x0.b2.toNat : Int)), .int .u8 ((x0.b3.toNat : Int)), .int .u8 ((x0.b4.toNat : Int)), .int .u8 ((x0.b5.toNat : Int)), .int .u8 ((x0.b6.toNat : Int)), .int .u8 ((x0.b7.toNat : Int)), .int .u8 ((x0.b8.toNat : Int)), .int .u8 ((x0.b9.toNat : Int)), .int .u8 ((x0.b10.toNat : Int)), .int .u8 ((x0.b11.toNat : Int)), .int .u8 ((x0.b12.toNat : Int)), .int .u8 ((x0.b13.toNat : Int)), .int .u8 ((x0.b14.toNat : Int)), .int .u8 ((x0.b15.toNat : Int))] 33 (0, 0))] Wx) (by kernel_rfl) ?_
          replace hO := hO.drewN 1
          generalize hWd : ({ W6 with drawn := W6.drawn + 1 } : World) = W6_d at hO ⊢; clear hWd
          refine Tk 0 hF (.agg #[.bool false, .int .u8 0, .int .u8 0, .int .u8 0, .int .u8 0, .int .u8 0, .int .u8 0, .int .u8 0, .int .u8 0, .int .u8 0, .int .u8 0, .int .u8 0, .int .u8 0, .int .u8 0, .int .u8 0, .int .u8 0, .int .u8 0, .int .i64 0]) (fun Wx _ => by kernel_rfl) (hO.sub (.cons_cons _ (List.nil_sublist _))) ?_; clear hF; intro a hF
          refine Tk 1 hF (errV ea 3) (fun Wx hO => x_load (p := .pointer (some ⟨4, 0, none⟩)) rfl (by kernel_rfl) (hE.load hO 3 4 h3 (by kernel_rfl))) (hO.sub (.cons_cons _ (List.nil_sublist _))) ?_; clear hF; intro a hF
          refine A_one (i := 2) (listed' := #[true, true, true, false]) (by kernel_rfl) rfl (by kernel_rfl) ?_
          obtain ⟨W10, hst, hO1⟩ := run_storeAt (P := Tryz.prog) (k := 18) (T := 68) (off := 0) (v := .agg #[.bool false, .int .u8 0, .int .u8 0, .int .u8 0, .int .u8 0, .int .u8 0, .int .u8 0, .int .u8 0, .int .u8 0, .int .u8 0, .int .u8 0, .int .u8 0, .int .u8 0, .int .u8 0, .int .u8 0, .int .u8 0, .int .u8 0, .int .i64 0]) (cs := #[.bool false, .int .u8 0, .int .u8 0, .int .u8 0, .int .u8 0, .int .u8 0, .int .u8 0, .int .u8 0, .int .u8 0, .int .u8 0, .int .u8 0, .int .u8 0, .int .u8 0, .int .u8 0, .int .u8 0, .int .u8 0, .int .u8 0, .int .i64 0]) (cs' := #[.bool false, .int .u8 0, .int .u8 0, .int .u8 0, .int .u8 0, .int .u8 0, .int .u8 0, .int .u8 0, .int .u8 0, .int .u8 0, .int .u8 0, .int .u8 0, .int .u8 0, .int .u8 0, .int .u8 0, .int .u8 0, .int .u8 0, .int .i64 0]) hO (by kernel_rfl) (by kernel_rfl) (by kernel_rfl) (Nat.le_of_ble_eq_true (by kernel_rfl)) (by kernel_rfl) (.tail (.head _))
          refine OpK.skip hF (by kernel_rfl) (by kernel_rfl) (x_store (p := .pointer (some ⟨b1, 0, none⟩)) (v := .agg #[.bool false, .int .u8 0, .int .u8 0, .int .u8 0, .int .u8 0, .int .u8 0, .int .u8 0, .int .u8 0, .int .u8 0, .int .u8 0, .int .u8 0, .int .u8 0, .int .u8 0, .int .u8 0, .int .u8 0, .int .u8 0, .int .u8 0, .int .i64 0]) rfl (by kernel_rfl) (by kernel_rfl) hst) (by kernel_rfl) ?_
          clear hst hF; intro a hF; replace hO := hO1; clear hO1
          refine ⟨hO.sub (.cons_cons _ (List.nil_sublist _)), ?_⟩
          refine Tk 3 hF (errV ea 3) (fun Wx _ => by kernel_rfl) (hO.sub (.cons_cons _ (List.nil_sublist _))) ?_; clear hF; intro a hF
          refine A_done (by kernel_rfl) ?_
          refine hK10 _ _ ?_
          refine wp_ret ?_
          refine block_ret ?_
          refine then_ret ?_
          -- way 4: slY s; atoiOk (slT s); ¬ (atoiN (slT s)) < 0; (atoiN (slT s)) > 128
          refine ret2 hF (v := .agg #[.bool false, .int .u8 0, .int .u8 0, .int .u8 0, .int .u8 0, .int .u8 0, .int .u8 0, .int .u8 0, .int .u8 0, .int .u8 0, .int .u8 0, .int .u8 0, .int .u8 0, .int .u8 0, .int .u8 0, .int .u8 0, .int .u8 0, .int .i64 0]) (u := errV ea 3) rfl (resC (ad := ⟨b1, 0, none⟩) (by kernel_rfl) (run_loadA (k := 18) (by kernel_rfl) (by kernel_rfl) (hO.blk (List.mem_cons_of_mem _ List.mem_cons_self)) (by kernel_rfl) (by kernel_rfl))) (resT (by kernel_rfl)) (by refine ⟨?_, hO.nil⟩; first | (rw [parseCd_none hp]; rfl) | (rw [parseCd_no hp (.inl (by assumption))]; rfl) | (rw [parseCd_no hp (.inr (numOk_no (.inl (by assumption))))]; rfl) | (rw [parseCd_no hp (.inr (numOk_no (.inr (.inl (by assumption)))))]; rfl) | (rw [parseCd_no hp (.inr (numOk_no (.inr (.inr (.inl (by assumption))))))]; rfl) | (rw [parseCd_no hp (.inr (numOk_no (.inr (.inr (.inr (by assumption))))))]; rfl) | (rw [parseCd_yes hp (by assumption) (numOk_yes (by assumption) (by assumption) (by assumption) (Decidable.of_not_not (by assumption)))]; first | (rw [if_neg (by simp [*])]; rfl) | (rw [if_pos (by assumption), if_neg (by assumption)]; rfl) | (rw [if_pos (by assumption), if_pos (Decidable.of_not_not (by assumption))]; rfl))) .ret (.inl rfl)
        ·
          replace hF := hF.know (d := 46) (v' := .bool false) (by kernel_rfl) (congrArg Value.bool (decide_eq_false q4))
          refine Vp hF (.int .i64 ((atoiN (slT s)))) ?_; clear hF; intro a hF
          refine Lc hF (itoa_ret (atoiN (slT s)) W6 (hG.own hO) (by omega) (by omega)) ?_
          clear hF; rintro _ W11 a ⟨rfl, hk⟩ hF
          replace hO := hO.call0 hk; clear hk
          refine Vp hF (.string (slT s)) ?_; clear hF; intro a hF
          refine Vp hF (.bool (!(strEq (⟨(Lib.itoa (atoiN (slT s))).toArray⟩ : ByteArray) (slT s)))) ?_; clear hF; intro a hF
          refine Vp hF (.bool (!(strEq (⟨(Lib.itoa (atoiN (slT s))).toArray⟩ : ByteArray) (slT s)))) ?_; clear hF; intro a hF
          refine Vp hF (.bool (!(strEq (⟨(Lib.itoa (atoiN (slT s))).toArray⟩ : ByteArray) (slT s)))) ?_; clear hF; intro a hF
          refine L_nil ?_
          refine hK6 _ _ ?_
          by_cases q5 : ¬ ((⟨(Lib.itoa (atoiN (slT s))).toArray⟩ : ByteArray) = slT s)
          ·
            replace hF := hF.know (d := 27) (v' := .bool true) (by kernel_rfl) (congrArg Value.bool (notT (strEq_false.2 q5)))
            refine cond_t hF (by kernel_rfl) (by kernel_rfl) ?_
            refine wp_seq_k fun K11 hK11 => ?_
            refine A_start (fun Wx => Own W noX [.blk b2 (.cells #[.bool x0.six, .int .u8 ((x0.b0.toNat : Int)), .int .u8 ((x0.b1.toNat : Int)), .int .u8 ((x0.b2.toNat : Int)), .int .u8 ((x0.b3.toNat : Int)), .int .u8 ((x0.b4.toNat : Int)), .int .u8 ((x0.b5.toNat : Int)), .int .u8 ((x0.b6.toNat : Int)), .int .u8 ((x0.b7.toNat : Int)), .int .u8 ((x0.b8.toNat : Int)), .int .u8 ((x0.b9.toNat : Int)), .int .u8 ((x0.b10.toNat : Int)), .int .u8 ((x0.b11.toNat : Int)), .int .u8 ((x0.b12.toNat : Int)), .int .u8 ((x0.b13.toNat : Int)), .int .u8 ((x0.b14.toNat : Int)), .int .u8 ((x0.b15.toNat : Int))] 33 (0, 0))] Wx) (by kernel_rfl) ?_
            replace hO := hO.drewN 1
            generalize hWd : ({ W11 with drawn := W11.drawn + 1 } : World) = W11_d at hO ⊢; clear hWd
            refine Tk 0 hF (.agg #[.bool false, .int .u8 0, .int .u8 0, .int .u8 0, .int .u8 0, .int .u8 0, .int .u8 0, .int .u8 0, .int .u8 0, .int .u8 0, .int .u8 0, .int .u8 0, .int .u8 0, .int .u8 0, .int .u8 0, .int .u8 0, .int .u8 0, .int .i64 0]) (fun Wx _ => by kernel_rfl) (hO.sub (.cons_cons _ (List.nil_sublist _))) ?_; clear hF; intro a hF
            refine Tk 1 hF (errV ea 3) (fun Wx hO => x_load (p := .pointer (some ⟨4, 0, none⟩)) rfl (by kernel_rfl) (hE.load hO 3 4 h3 (by kernel_rfl))) (hO.sub (.cons_cons _ (List.nil_sublist _))) ?_; clear hF; intro a hF
            refine A_one (i := 2) (listed' := #[true, true, true, false]) (by kernel_rfl) rfl (by kernel_rfl) ?_
            obtain ⟨W12, hst, hO1⟩ := run_storeAt (P := Tryz.prog) (k := 18) (T := 68) (off := 0) (v := .agg #[.bool false, .int .u8 0, .int .u8 0, .int .u8 0, .int .u8 0, .int .u8 0, .int .u8 0, .int .u8 0, .int .u8 0, .int .u8 0, .int .u8 0, .int .u8 0, .int .u8 0, .int .u8 0, .int .u8 0, .int .u8 0, .int .u8 0, .int .i64 0]) (cs := #[.bool false, .int .u8 0, .int .u8 0, .int .u8 0, .int .u8 0, .int .u8 0, .int .u8 0, .int .u8 0, .int .u8 0, .int .u8 0, .int .u8 0, .int .u8 0, .int .u8 0, .int .u8 0, .int .u8 0, .int .u8 0, .int .u8 0, .int .i64 0]) (cs' := #[.bool false, .int .u8 0, .int .u8 0, .int .u8 0, .int .u8 0, .int .u8 0, .int .u8 0, .int .u8 0, .int .u8 0, .int .u8 0, .int .u8 0, .int .u8 0, .int .u8 0, .int .u8 0, .int .u8 0, .int .u8 0, .int .u8 0, .int .i64 0]) hO (by kernel_rfl) (by kernel_rfl) (by kernel_rfl) (Nat.le_of_ble_eq_true (by kernel_rfl)) (by kernel_rfl) (.tail (.head _))
            refine OpK.skip hF (by kernel_rfl) (by kernel_rfl) (x_store (p := .pointer (some ⟨b1, 0, none⟩)) (v := .agg #[.bool false, .int .u8 0, .int .u8 0, .int .u8 0, .int .u8 0, .int .u8 0, .int .u8 0, .int .u8 0, .int .u8 0, .int .u8 0, .int .u8 0, .int .u8 0, .int .u8 0, .int .u8 0, .int .u8 0, .int .u8 0, .int .u8 0, .int .i64 0]) rfl (by kernel_rfl) (by kernel_rfl) hst) (by kernel_rfl) ?_
            clear hst hF; intro a hF; replace hO := hO1; clear hO1
            refine ⟨hO.sub (.cons_cons _ (List.nil_sublist _)), ?_⟩
            refine Tk 3 hF (errV ea 3) (fun Wx _ => by kernel_rfl) (hO.sub (.cons_cons _ (List.nil_sublist _))) ?_; clear hF; intro a hF
            refine A_done (by kernel_rfl) ?_
            refine hK11 _ _ ?_
            refine wp_ret ?_
            refine block_ret ?_
            refine then_ret ?_
            -- way 5: slY s; atoiOk (slT s); ¬ (atoiN (slT s)) < 0; ¬ (atoiN (slT s)) > 128; ¬ ((⟨(Lib.itoa (atoiN (slT s))).toArray⟩ : ByteArray) = slT s)
            refine ret2 hF (v := .agg #[.bool false, .int .u8 0, .int .u8 0, .int .u8 0, .int .u8 0, .int .u8 0, .int .u8 0, .int .u8 0, .int .u8 0, .int .u8 0, .int .u8 0, .int .u8 0, .int .u8 0, .int .u8 0, .int .u8 0, .int .u8 0, .int .u8 0, .int .i64 0]) (u := errV ea 3) rfl (resC (ad := ⟨b1, 0, none⟩) (by kernel_rfl) (run_loadA (k := 18) (by kernel_rfl) (by kernel_rfl) (hO.blk (List.mem_cons_of_mem _ List.mem_cons_self)) (by kernel_rfl) (by kernel_rfl))) (resT (by kernel_rfl)) (by refine ⟨?_, hO.nil⟩; first | (rw [parseCd_none hp]; rfl) | (rw [parseCd_no hp (.inl (by assumption))]; rfl) | (rw [parseCd_no hp (.inr (numOk_no (.inl (by assumption))))]; rfl) | (rw [parseCd_no hp (.inr (numOk_no (.inr (.inl (by assumption)))))]; rfl) | (rw [parseCd_no hp (.inr (numOk_no (.inr (.inr (.inl (by assumption))))))]; rfl) | (rw [parseCd_no hp (.inr (numOk_no (.inr (.inr (.inr (by assumption))))))]; rfl) | (rw [parseCd_yes hp (by assumption) (numOk_yes (by assumption) (by assumption) (by assumption) (Decidable.of_not_not (by assumption)))]; first | (rw [if_neg (by simp [*])]; rfl) | (rw [if_pos (by assumption), if_neg (by assumption)]; rfl) | (rw [if_pos (by assumption), if_pos (Decidable.of_not_not (by assumption))]; rfl))) .ret (.inl rfl)
          ·
            replace hF := hF.know (d := 27) (v' := .bool false) (by kernel_rfl) (congrArg Value.bool (notF (strEq_iff.2 (Decidable.of_not_not q5))))
            refine cond_f hF (by kernel_rfl) (by kernel_rfl) ?_
            refine wp_seq_k fun K12 hK12 => ?_
            refine wp_region_lit ?_
            refine Vr hF (.agg #[.bool x0.six, .int .u8 ((x0.b0.toNat : Int)), .int .u8 ((x0.b1.toNat : Int)), .int .u8 ((x0.b2.toNat : Int)), .int .u8 ((x0.b3.toNat : Int)), .int .u8 ((x0.b4.toNat : Int)), .int .u8 ((x0.b5.toNat : Int)), .int .u8 ((x0.b6.toNat : Int)), .int .u8 ((x0.b7.toNat : Int)), .int .u8 ((x0.b8.toNat : Int)), .int .u8 ((x0.b9.toNat : Int)), .int .u8 ((x0.b10.toNat : Int)), .int .u8 ((x0.b11.toNat : Int)), .int .u8 ((x0.b12.toNat : Int)), .int .u8 ((x0.b13.toNat : Int)), .int .u8 ((x0.b14.toNat : Int)), .int .u8 ((x0.b15.toNat : Int))]) (x_load (p := .pointer (some ⟨b2, 0, none⟩)) rfl (by kernel_rfl) (run_loadA (k := 17) (by kernel_rfl) (by kernel_rfl) (hO.blk List.mem_cons_self) (by kernel_rfl) (by kernel_rfl))) ?_; clear hF; intro a hF
            refine Vp hF (.int .i64 ((atoiN (slT s)))) ?_; clear hF; intro a hF
            refine Lc hF (cidr_fits x0 (atoiN (slT s)) W11) ?_
            clear hF; rintro _ W13 a ⟨rfl, hk⟩ hF
            replace hO := hO.call0 hk; clear hk
            refine Vp hF (.bool (!(fitsIp x0 (atoiN (slT s))))) ?_; clear hF; intro a hF
            refine Vp hF (.bool (!(fitsIp x0 (atoiN (slT s))))) ?_; clear hF; intro a hF
            refine L_nil ?_
            refine hK12 _ _ ?_
            cases q6 : (fitsIp x0 (atoiN (slT s)) : Bool)
            ·
              replace hF := hF.know (d := 54) (v' := .bool true) (by kernel_rfl) (congrArg Value.bool (notT q6))
              refine cond_t hF (by kernel_rfl) (by kernel_rfl) ?_
              refine wp_seq_k fun K13 hK13 => ?_
              refine A_start (fun Wx => Own W noX [.blk b2 (.cells #[.bool x0.six, .int .u8 ((x0.b0.toNat : Int)), .int .u8 ((x0.b1.toNat : Int)), .int .u8 ((x0.b2.toNat : Int)), .int .u8 ((x0.b3.toNat : Int)), .int .u8 ((x0.b4.toNat : Int)), .int .u8 ((x0.b5.toNat : Int)), .int .u8 ((x0.b6.toNat : Int)), .int .u8 ((x0.b7.toNat : Int)), .int .u8 ((x0.b8.toNat : Int)), .int .u8 ((x0.b9.toNat : Int)), .int .u8 ((x0.b10.toNat : Int)), .int .u8 ((x0.b11.toNat : Int)), .int .u8 ((x0.b12.toNat : Int)), .int .u8 ((x0.b13.toNat : Int)), .int .u8 ((x0.b14.toNat : Int)), .int .u8 ((x0.b15.toNat : Int))] 33 (0, 0))] Wx) (by kernel_rfl) ?_
              replace hO := hO.drewN 1
              generalize hWd : ({ W13 with drawn := W13.drawn + 1 } : World) = W13_d at hO ⊢; clear hWd
              refine Tk 0 hF (.agg #[.bool false, .int .u8 0, .int .u8 0, .int .u8 0, .int .u8 0, .int .u8 0, .int .u8 0, .int .u8 0, .int .u8 0, .int .u8 0, .int .u8 0, .int .u8 0, .int .u8 0, .int .u8 0, .int .u8 0, .int .u8 0, .int .u8 0, .int .i64 0]) (fun Wx _ => by kernel_rfl) (hO.sub (.cons_cons _ (List.nil_sublist _))) ?_; clear hF; intro a hF
              refine Tk 1 hF (errV ea 0) (fun Wx hO => x_load (p := .pointer (some ⟨1, 0, none⟩)) rfl (by kernel_rfl) (hE.load hO 0 1 h0 (by kernel_rfl))) (hO.sub (.cons_cons _ (List.nil_sublist _))) ?_; clear hF; intro a hF
              refine A_one (i := 2) (listed' := #[true, true, true, false]) (by kernel_rfl) rfl (by kernel_rfl) ?_
              obtain ⟨W14, hst, hO1⟩ := run_storeAt (P := Tryz.prog) (k := 18) (T := 68) (off := 0) (v := .agg #[.bool false, .int .u8 0, .int .u8 0, .int .u8 0, .int .u8 0, .int .u8 0, .int .u8 0, .int .u8 0, .int .u8 0, .int .u8 0, .int .u8 0, .int .u8 0, .int .u8 0, .int .u8 0, .int .u8 0, .int .u8 0, .int .u8 0, .int .i64 0]) (cs := #[.bool false, .int .u8 0, .int .u8 0, .int .u8 0, .int .u8 0, .int .u8 0, .int .u8 0, .int .u8 0, .int .u8 0, .int .u8 0, .int .u8 0, .int .u8 0, .int .u8 0, .int .u8 0, .int .u8 0, .int .u8 0, .int .u8 0, .int .i64 0]) (cs' := #[.bool false, .int .u8 0, .int .u8 0, .int .u8 0, .int .u8 0, .int .u8 0, .int .u8 0, .int .u8 0, .int .u8 0, .int .u8 0, .int .u8 0, .int .u8 0, .int .u8 0, .int .u8 0, .int .u8 0, .int .u8 0, .int .u8 0, .int .i64 0]) hO (by kernel_rfl) (by kernel_rfl) (by kernel_rfl) (Nat.le_of_ble_eq_true (by kernel_rfl)) (by kernel_rfl) (.tail (.head _))
              refine OpK.skip hF (by kernel_rfl) (by kernel_rfl) (x_store (p := .pointer (some ⟨b1, 0, none⟩)) (v := .agg #[.bool false, .int .u8 0, .int .u8 0, .int .u8 0, .int .u8 0, .int .u8 0, .int .u8 0, .int .u8 0, .int .u8 0, .int .u8 0, .int .u8 0, .int .u8 0, .int .u8 0, .int .u8 0, .int .u8 0, .int .u8 0, .int .u8 0, .int .i64 0]) rfl (by kernel_rfl) (by kernel_rfl) hst) (by kernel_rfl) ?_
              clear hst hF; intro a hF; replace hO := hO1; clear hO1
              refine ⟨hO.sub (.cons_cons _ (List.nil_sublist _)), ?_⟩
              refine Tk 3 hF (errV ea 0) (fun Wx _ => by kernel_rfl) (hO.sub (.cons_cons _ (List.nil_sublist _))) ?_; clear hF; intro a hF
              refine A_done (by kernel_rfl) ?_
              refine hK13 _ _ ?_
              refine wp_ret ?_
              refine block_ret ?_
              refine then_ret ?_
              -- way 6: slY s; atoiOk (slT s); ¬ (atoiN (slT s)) < 0; ¬ (atoiN (slT s)) > 128; ¬ ¬ ((⟨(Lib.itoa (atoiN (slT s))).toArray⟩ : ByteArray) = slT s); ¬ fitsIp x0 (atoiN (slT s))
              refine ret2 hF (v := .agg #[.bool false, .int .u8 0, .int .u8 0, .int .u8 0, .int .u8 0, .int .u8 0, .int .u8 0, .int .u8 0, .int .u8 0, .int .u8 0, .int .u8 0, .int .u8 0, .int .u8 0, .int .u8 0, .int .u8 0, .int .u8 0, .int .u8 0, .int .i64 0]) (u := errV ea 0) rfl (resC (ad := ⟨b1, 0, none⟩) (by kernel_rfl) (run_loadA (k := 18) (by kernel_rfl) (by kernel_rfl) (hO.blk (List.mem_cons_of_mem _ List.mem_cons_self)) (by kernel_rfl) (by kernel_rfl))) (resT (by kernel_rfl)) (by refine ⟨?_, hO.nil⟩; first | (rw [parseCd_none hp]; rfl) | (rw [parseCd_no hp (.inl (by assumption))]; rfl) | (rw [parseCd_no hp (.inr (numOk_no (.inl (by assumption))))]; rfl) | (rw [parseCd_no hp (.inr (numOk_no (.inr (.inl (by assumption)))))]; rfl) | (rw [parseCd_no hp (.inr (numOk_no (.inr (.inr (.inl (by assumption))))))]; rfl) | (rw [parseCd_no hp (.inr (numOk_no (.inr (.inr (.inr (by assumption))))))]; rfl) | (rw [parseCd_yes hp (by assumption) (numOk_yes (by assumption) (by assumption) (by assumption) (Decidable.of_not_not (by assumption)))]; first | (rw [if_neg (by simp [*])]; rfl) | (rw [if_pos (by assumption), if_neg (by assumption)]; rfl) | (rw [if_pos (by assumption), if_pos (Decidable.of_not_not (by assumption))]; rfl))) .ret (.inl rfl)
            ·
              replace hF := hF.know (d := 54) (v' := .bool false) (by kernel_rfl) (congrArg Value.bool (notF q6))
              refine cond_f hF (by kernel_rfl) (by kernel_rfl) ?_
              refine wp_seq_k fun K14 hK14 => ?_
              refine A_start (fun Wx => Own W noX [.blk b2 (.cells #[.bool x0.six, .int .u8 ((x0.b0.toNat : Int)), .int .u8 ((x0.b1.toNat : Int)), .int .u8 ((x0.b2.toNat : Int)), .int .u8 ((x0.b3.toNat : Int)), .int .u8 ((x0.b4.toNat : Int)), .int .u8 ((x0.b5.toNat : Int)), .int .u8 ((x0.b6.toNat : Int)), .int .u8 ((x0.b7.toNat : Int)), .int .u8 ((x0.b8.toNat : Int)), .int .u8 ((x0.b9.toNat : Int)), .int .u8 ((x0.b10.toNat : Int)), .int .u8 ((x0.b11.toNat : Int)), .int .u8 ((x0.b12.toNat : Int)), .int .u8 ((x0.b13.toNat : Int)), .int .u8 ((x0.b14.toNat : Int)), .int .u8 ((x0.b15.toNat : Int))] 33 (0, 0)), .blk b1 (.cells #[.bool false, .int .u8 0, .int .u8 0, .int .u8 0, .int .u8 0, .int .u8 0, .int .u8 0, .int .u8 0, .int .u8 0, .int .u8 0, .int .u8 0, .int .u8 0, .int .u8 0, .int .u8 0, .int .u8 0, .int .u8 0, .int .u8 0, .int .i64 0] 68 (0, 0))] Wx) (by kernel_rfl) ?_
              replace hO := hO.drewN 1
              generalize hWd : ({ W13 with drawn := W13.drawn + 1 } : World) = W13_d at hO ⊢; clear hWd
              refine Tk 0 hF (.agg #[.bool x0.six, .int .u8 ((x0.b0.toNat : Int)), .int .u8 ((x0.b1.toNat : Int)), .int .u8 ((x0.b2.toNat : Int)), .int .u8 ((x0.b3.toNat : Int)), .int .u8 ((x0.b4.toNat : Int)), .int .u8 ((x0.b5.toNat : Int)), .int .u8 ((x0.b6.toNat : Int)), .int .u8 ((x0.b7.toNat : Int)), .int .u8 ((x0.b8.toNat : Int)), .int .u8 ((x0.b9.toNat : Int)), .int .u8 ((x0.b10.toNat : Int)), .int .u8 ((x0.b11.toNat : Int)), .int .u8 ((x0.b12.toNat : Int)), .int .u8 ((x0.b13.toNat : Int)), .int .u8 ((x0.b14.toNat : Int)), .int .u8 ((x0.b15.toNat : Int))]) (fun Wx hO => x_load (p := .pointer (some ⟨b2, 0, none⟩)) rfl (by kernel_rfl) (run_loadA (k := 17) (by kernel_rfl) (by kernel_rfl) (hO.blk List.mem_cons_self) (by kernel_rfl) (by kernel_rfl))) (hO.sub (.cons_cons _ (.cons_cons _ (List.nil_sublist _)))) ?_; clear hF; intro a hF
              refine Tk 1 hF (.int .i64 ((atoiN (slT s)))) (fun Wx _ => by kernel_rfl) (hO.sub (.cons_cons _ (.cons_cons _ (List.nil_sublist _)))) ?_; clear hF; intro a hF
              refine Tk 3 hF (.agg #[.bool x0.six, .int .u8 ((x0.b0.toNat : Int)), .int .u8 ((x0.b1.toNat : Int)), .int .u8 ((x0.b2.toNat : Int)), .int .u8 ((x0.b3.toNat : Int)), .int .u8 ((x0.b4.toNat : Int)), .int .u8 ((x0.b5.toNat : Int)), .int .u8 ((x0.b6.toNat : Int)), .int .u8 ((x0.b7.toNat : Int)), .int .u8 ((x0.b8.toNat : Int)), .int .u8 ((x0.b9.toNat : Int)), .int .u8 ((x0.b10.toNat : Int)), .int .u8 ((x0.b11.toNat : Int)), .int .u8 ((x0.b12.toNat : Int)), .int .u8 ((x0.b13.toNat : Int)), .int .u8 ((x0.b14.toNat : Int)), .int .u8 ((x0.b15.toNat : Int))]) (fun Wx hO => x_load (p := .pointer (some ⟨b2, 0, none⟩)) rfl (by kernel_rfl) (run_loadA (k := 17) (by kernel_rfl) (by kernel_rfl) (hO.blk List.mem_cons_self) (by kernel_rfl) (by kernel_rfl))) (hO.sub (.cons_cons _ (.cons_cons _ (List.nil_sublist _)))) ?_; clear hF; intro a hF
              refine A_one (i := 2) (listed' := #[true, true, true, true, false, false]) (by kernel_rfl) rfl (by kernel_rfl) ?_
              refine OpK.lc hF (cidr_cut x0 (atoiN (slT s)) W13_d (by omega) (by omega)) ?_
              clear hF; rintro _ W15 a ⟨rfl, hk⟩ hF
              replace hO := hO.call0 hk; clear hk
              refine ⟨hO.sub (.cons_cons _ (.cons_cons _ (List.nil_sublist _))), ?_⟩
              refine Tk 4 hF (.bool (!(decide ((cutIp x0 (atoiN (slT s))) = x0)))) (fun Wx _ => (x_neIp (a := (cutIp x0 (atoiN (slT s)))) (b := x0) rfl (by kernel_rfl) (by kernel_rfl))) (hO.sub (.cons_cons _ (.cons_cons _ (List.nil_sublist _)))) ?_; clear hF; intro a hF
              refine Tk 5 hF (.bool (!(decide ((cutIp x0 (atoiN (slT s))) = x0)))) (fun Wx _ => by kernel_rfl) (hO.sub (.cons_cons _ (.cons_cons _ (List.nil_sublist _)))) ?_; clear hF; intro a hF
              refine A_done (by kernel_rfl) ?_
              refine hK14 _ _ ?_
              by_cases q7 : ¬ ((cutIp x0 (atoiN (slT s))) = x0)
              ·
                replace hF := hF.know (d := 61) (v' := .bool true) (by kernel_rfl) (congrArg Value.bool (notT (decide_eq_false q7)))
                refine cond_t hF (by kernel_rfl) (by kernel_rfl) ?_
                refine wp_seq_k fun K15 hK15 => ?_
                refine A_start (fun Wx => Own W noX [.blk b2 (.cells #[.bool x0.six, .int .u8 ((x0.b0.toNat : Int)), .int .u8 ((x0.b1.toNat : Int)), .int .u8 ((x0.b2.toNat : Int)), .int .u8 ((x0.b3.toNat : Int)), .int .u8 ((x0.b4.toNat : Int)), .int .u8 ((x0.b5.toNat : Int)), .int .u8 ((x0.b6.toNat : Int)), .int .u8 ((x0.b7.toNat : Int)), .int .u8 ((x0.b8.toNat : Int)), .int .u8 ((x0.b9.toNat : Int)), .int .u8 ((x0.b10.toNat : Int)), .int .u8 ((x0.b11.toNat : Int)), .int .u8 ((x0.b12.toNat : Int)), .int .u8 ((x0.b13.toNat : Int)), .int .u8 ((x0.b14.toNat : Int)), .int .u8 ((x0.b15.toNat : Int))] 33 (0, 0))] Wx) (by kernel_rfl) ?_
                replace hO := hO.drewN 1
                generalize hWd : ({ W15 with drawn := W15.drawn + 1 } : World) = W15_d at hO ⊢; clear hWd
                refine Tk 0 hF (.agg #[.bool false, .int .u8 0, .int .u8 0, .int .u8 0, .int .u8 0, .int .u8 0, .int .u8 0, .int .u8 0, .int .u8 0, .int .u8 0, .int .u8 0, .int .u8 0, .int .u8 0, .int .u8 0, .int .u8 0, .int .u8 0, .int .u8 0, .int .i64 0]) (fun Wx _ => by kernel_rfl) (hO.sub (.cons_cons _ (List.nil_sublist _))) ?_; clear hF; intro a hF
                refine Tk 1 hF (errV ea 7) (fun Wx hO => x_load (p := .pointer (some ⟨8, 0, none⟩)) rfl (by kernel_rfl) (hE.load hO 7 8 h7 (by kernel_rfl))) (hO.sub (.cons_cons _ (List.nil_sublist _))) ?_; clear hF; intro a hF
                refine A_one (i := 2) (listed' := #[true, true, true, false]) (by kernel_rfl) rfl (by kernel_rfl) ?_
                obtain ⟨W16, hst, hO1⟩ := run_storeAt (P := Tryz.prog) (k := 18) (T := 68) (off := 0) (v := .agg #[.bool false, .int .u8 0, .int .u8 0, .int .u8 0, .int .u8 0, .int .u8 0, .int .u8 0, .int .u8 0, .int .u8 0, .int .u8 0, .int .u8 0, .int .u8 0, .int .u8 0, .int .u8 0, .int .u8 0, .int .u8 0, .int .u8 0, .int .i64 0]) (cs := #[.bool false, .int .u8 0, .int .u8 0, .int .u8 0, .int .u8 0, .int .u8 0, .int .u8 0, .int .u8 0, .int .u8 0, .int .u8 0, .int .u8 0, .int .u8 0, .int .u8 0, .int .u8 0, .int .u8 0, .int .u8 0, .int .u8 0, .int .i64 0]) (cs' := #[.bool false, .int .u8 0, .int .u8 0, .int .u8 0, .int .u8 0, .int .u8 0, .int .u8 0, .int .u8 0, .int .u8 0, .int .u8 0, .int .u8 0, .int .u8 0, .int .u8 0, .int .u8 0, .int .u8 0, .int .u8 0, .int .u8 0, .int .i64 0]) hO (by kernel_rfl) (by kernel_rfl) (by kernel_rfl) (Nat.le_of_ble_eq_true (by kernel_rfl)) (by kernel_rfl) (.tail (.head _))
                refine OpK.skip hF (by kernel_rfl) (by kernel_rfl) (x_store (p := .pointer (some ⟨b1, 0, none⟩)) (v := .agg #[.bool false, .int .u8 0, .int .u8 0, .int .u8 0, .int .u8 0, .int .u8 0, .int .u8 0, .int .u8 0, .int .u8 0, .int .u8 0, .int .u8 0, .int .u8 0, .int .u8 0, .int .u8 0, .int .u8 0, .int .u8 0, .int .u8 0, .int .i64 0]) rfl (by kernel_rfl) (by kernel_rfl) hst) (by kernel_rfl) ?_
                clear hst hF; intro a hF; replace hO := hO1; clear hO1
                refine ⟨hO.sub (.cons_cons _ (List.nil_sublist _)), ?_⟩
                refine Tk 3 hF (errV ea 7) (fun Wx _ => by kernel_rfl) (hO.sub (.cons_cons _ (List.nil_sublist _))) ?_; clear hF; intro a hF
                refine A_done (by kernel_rfl) ?_
                refine hK15 _ _ ?_
                refine wp_ret ?_
                refine block_ret ?_
                refine then_ret ?_
                -- way 7: slY s; atoiOk (slT s); ¬ (atoiN (slT s)) < 0; ¬ (atoiN (slT s)) > 128; ¬ ¬ ((⟨(Lib.itoa (atoiN (slT s))).toArray⟩ : ByteArray) = slT s); fitsIp x0 (atoiN (slT s)); ¬ ((cutIp x0 (atoiN (slT s))) = x0)
                refine ret2 hF (v := .agg #[.bool false, .int .u8 0, .int .u8 0, .int .u8 0, .int .u8 0, .int .u8 0, .int .u8 0, .int .u8 0, .int .u8 0, .int .u8 0, .int .u8 0, .int .u8 0, .int .u8 0, .int .u8 0, .int .u8 0, .int .u8 0, .int .u8 0, .int .i64 0]) (u := errV ea 7) rfl (resC (ad := ⟨b1, 0, none⟩) (by kernel_rfl) (run_loadA (k := 18) (by kernel_rfl) (by kernel_rfl) (hO.blk (List.mem_cons_of_mem _ List.mem_cons_self)) (by kernel_rfl) (by kernel_rfl))) (resT (by kernel_rfl)) (by refine ⟨?_, hO.nil⟩; first | (rw [parseCd_none hp]; rfl) | (rw [parseCd_no hp (.inl (by assumption))]; rfl) | (rw [parseCd_no hp (.inr (numOk_no (.inl (by assumption))))]; rfl) | (rw [parseCd_no hp (.inr (numOk_no (.inr (.inl (by assumption)))))]; rfl) | (rw [parseCd_no hp (.inr (numOk_no (.inr (.inr (.inl (by assumption))))))]; rfl) | (rw [parseCd_no hp (.inr (numOk_no (.inr (.inr (.inr (by assumption))))))]; rfl) | (rw [parseCd_yes hp (by assumption) (numOk_yes (by assumption) (by assumption) (by assumption) (Decidable.of_not_not (by assumption)))]; first | (rw [if_neg (by simp [*])]; rfl) | (rw [if_pos (by assumption), if_neg (by assumption)]; rfl) | (rw [if_pos (by assumption), if_pos (Decidable.of_not_not (by assumption))]; rfl))) .ret (.inl rfl)
              ·
                replace hF := hF.know (d := 61) (v' := .bool false) (by kernel_rfl) (congrArg Value.bool (notF (decide_eq_true (Decidable.of_not_not q7))))
                refine cond_f hF (by kernel_rfl) (by kernel_rfl) ?_
                refine wp_skip ?_
                refine block_normal ?_
                refine hK5 _ _ ?_
                refine wp_seq_k fun K16 hK16 => ?_
                refine wp_region_lit ?_
                refine Vr hF (.agg #[.bool x0.six, .int .u8 ((x0.b0.toNat : Int)), .int .u8 ((x0.b1.toNat : Int)), .int .u8 ((x0.b2.toNat : Int)), .int .u8 ((x0.b3.toNat : Int)), .int .u8 ((x0.b4.toNat : Int)), .int .u8 ((x0.b5.toNat : Int)), .int .u8 ((x0.b6.toNat : Int)), .int .u8 ((x0.b7.toNat : Int)), .int .u8 ((x0.b8.toNat : Int)), .int .u8 ((x0.b9.toNat : Int)), .int .u8 ((x0.b10.toNat : Int)), .int .u8 ((x0.b11.toNat : Int)), .int .u8 ((x0.b12.toNat : Int)), .int .u8 ((x0.b13.toNat : Int)), .int .u8 ((x0.b14.toNat : Int)), .int .u8 ((x0.b15.toNat : Int))]) (x_load (p := .pointer (some ⟨b2, 0, none⟩)) rfl (by kernel_rfl) (run_loadA (k := 17) (by kernel_rfl) (by kernel_rfl) (hO.blk List.mem_cons_self) (by kernel_rfl) (by kernel_rfl))) ?_; clear hF; intro a hF
                refine Vp hF (.int .i64 ((atoiN (slT s)))) ?_; clear hF; intro a hF
                refine Vp hF (.agg #[.bool x0.six, .int .u8 ((x0.b0.toNat : Int)), .int .u8 ((x0.b1.toNat : Int)), .int .u8 ((x0.b2.toNat : Int)), .int .u8 ((x0.b3.toNat : Int)), .int .u8 ((x0.b4.toNat : Int)), .int .u8 ((x0.b5.toNat : Int)), .int .u8 ((x0.b6.toNat : Int)), .int .u8 ((x0.b7.toNat : Int)), .int .u8 ((x0.b8.toNat : Int)), .int .u8 ((x0.b9.toNat : Int)), .int .u8 ((x0.b10.toNat : Int)), .int .u8 ((x0.b11.toNat : Int)), .int .u8 ((x0.b12.toNat : Int)), .int .u8 ((x0.b13.toNat : Int)), .int .u8 ((x0.b14.toNat : Int)), .int .u8 ((x0.b15.toNat : Int)), .int .i64 ((atoiN (slT s)))]) ?_; clear hF; intro a hF
                obtain ⟨W17, hst, hO1⟩ := run_storeAt (P := Tryz.prog) (k := 18) (T := 68) (off := 0) (v := .agg #[.bool x0.six, .int .u8 ((x0.b0.toNat : Int)), .int .u8 ((x0.b1.toNat : Int)), .int .u8 ((x0.b2.toNat : Int)), .int .u8 ((x0.b3.toNat : Int)), .int .u8 ((x0.b4.toNat : Int)), .int .u8 ((x0.b5.toNat : Int)), .int .u8 ((x0.b6.toNat : Int)), .int .u8 ((x0.b7.toNat : Int)), .int .u8 ((x0.b8.toNat : Int)), .int .u8 ((x0.b9.toNat : Int)), .int .u8 ((x0.b10.toNat : Int)), .int .u8 ((x0.b11.toNat : Int)), .int .u8 ((x0.b12.toNat : Int)), .int .u8 ((x0.b13.toNat : Int)), .int .u8 ((x0.b14.toNat : Int)), .int .u8 ((x0.b15.toNat : Int)), .int .i64 ((atoiN (slT s)))]) (cs := #[.bool false, .int .u8 0, .int .u8 0, .int .u8 0, .int .u8 0, .int .u8 0, .int .u8 0, .int .u8 0, .int .u8 0, .int .u8 0, .int .u8 0, .int .u8 0, .int .u8 0, .int .u8 0, .int .u8 0, .int .u8 0, .int .u8 0, .int .i64 0]) (cs' := #[.bool x0.six, .int .u8 ((x0.b0.toNat : Int)), .int .u8 ((x0.b1.toNat : Int)), .int .u8 ((x0.b2.toNat : Int)), .int .u8 ((x0.b3.toNat : Int)), .int .u8 ((x0.b4.toNat : Int)), .int .u8 ((x0.b5.toNat : Int)), .int .u8 ((x0.b6.toNat : Int)), .int .u8 ((x0.b7.toNat : Int)), .int .u8 ((x0.b8.toNat : Int)), .int .u8 ((x0.b9.toNat : Int)), .int .u8 ((x0.b10.toNat : Int)), .int .u8 ((x0.b11.toNat : Int)), .int .u8 ((x0.b12.toNat : Int)), .int .u8 ((x0.b13.toNat : Int)), .int .u8 ((x0.b14.toNat : Int)), .int .u8 ((x0.b15.toNat : Int)), .int .i64 ((atoiN (slT s)))]) hO (by kernel_rfl) (by kernel_rfl) (by kernel_rfl) (Nat.le_of_ble_eq_true (by kernel_rfl)) (by kernel_rfl) (.tail (.head _))
                refine L_skip hF (by kernel_rfl) (by kernel_rfl) (x_store (p := .pointer (some ⟨b1, 0, none⟩)) (v := .agg #[.bool x0.six, .int .u8 ((x0.b0.toNat : Int)), .int .u8 ((x0.b1.toNat : Int)), .int .u8 ((x0.b2.toNat : Int)), .int .u8 ((x0.b3.toNat : Int)), .int .u8 ((x0.b4.toNat : Int)), .int .u8 ((x0.b5.toNat : Int)), .int .u8 ((x0.b6.toNat : Int)), .int .u8 ((x0.b7.toNat : Int)), .int .u8 ((x0.b8.toNat : Int)), .int .u8 ((x0.b9.toNat : Int)), .int .u8 ((x0.b10.toNat : Int)), .int .u8 ((x0.b11.toNat : Int)), .int .u8 ((x0.b12.toNat : Int)), .int .u8 ((x0.b13.toNat : Int)), .int .u8 ((x0.b14.toNat : Int)), .int .u8 ((x0.b15.toNat : Int)), .int .i64 ((atoiN (slT s)))]) rfl (by kernel_rfl) (by kernel_rfl) hst) (by kernel_rfl) ?_
                clear hst hF; intro a hF; replace hO := hO1; clear hO1
                refine Vp hF (.nilIface) ?_; clear hF; intro a hF
                refine L_nil ?_
                refine hK16 _ _ ?_
                refine wp_ret ?_
                -- way 8: slY s; atoiOk (slT s); ¬ (atoiN (slT s)) < 0; ¬ (atoiN (slT s)) > 128; ¬ ¬ ((⟨(Lib.itoa (atoiN (slT s))).toArray⟩ : ByteArray) = slT s); fitsIp x0 (atoiN (slT s)); ¬ ¬ ((cutIp x0 (atoiN (slT s))) = x0)
                refine ret2 hF (v := .agg #[.bool x0.six, .int .u8 ((x0.b0.toNat : Int)), .int .u8 ((x0.b1.toNat : Int)), .int .u8 ((x0.b2.toNat : Int)), .int .u8 ((x0.b3.toNat : Int)), .int .u8 ((x0.b4.toNat : Int)), .int .u8 ((x0.b5.toNat : Int)), .int .u8 ((x0.b6.toNat : Int)), .int .u8 ((x0.b7.toNat : Int)), .int .u8 ((x0.b8.toNat : Int)), .int .u8 ((x0.b9.toNat : Int)), .int .u8 ((x0.b10.toNat : Int)), .int .u8 ((x0.b11.toNat : Int)), .int .u8 ((x0.b12.toNat : Int)), .int .u8 ((x0.b13.toNat : Int)), .int .u8 ((x0.b14.toNat : Int)), .int .u8 ((x0.b15.toNat : Int)), .int .i64 ((atoiN (slT s)))]) (u := .nilIface) rfl (resC (ad := ⟨b1, 0, none⟩) (by kernel_rfl) (run_loadA (k := 18) (by kernel_rfl) (by kernel_rfl) (hO.blk (List.mem_cons_of_mem _ List.mem_cons_self)) (by kernel_rfl) (by kernel_rfl))) (resT (by kernel_rfl)) (by refine ⟨?_, hO.nil⟩; first | (rw [parseCd_none hp]; rfl) | (rw [parseCd_no hp (.inl (by assumption))]; rfl) | (rw [parseCd_no hp (.inr (numOk_no (.inl (by assumption))))]; rfl) | (rw [parseCd_no hp (.inr (numOk_no (.inr (.inl (by assumption)))))]; rfl) | (rw [parseCd_no hp (.inr (numOk_no (.inr (.inr (.inl (by assumption))))))]; rfl) | (rw [parseCd_no hp (.inr (numOk_no (.inr (.inr (.inr (by assumption))))))]; rfl) | (rw [parseCd_yes hp (by assumption) (numOk_yes (by assumption) (by assumption) (by assumption) (Decidable.of_not_not (by assumption)))]; first | (rw [if_neg (by simp [*])]; rfl) | (rw [if_pos (by assumption), if_neg (by assumption)]; rfl) | (rw [if_pos (by assumption), if_pos (Decidable.of_not_not (by assumption))]; rfl))) .ret (.inl rfl)

theorem cidr_Parse (I : List Nat) (ea : Nat → Addr) (s : ByteArray) (W : World) (hG : LibW W) (hE : Errs I ea W) (h3 : I.contains 3 = true) (h0 : I.contains 0 = true) (h7 : I.contains 7 = true) (hs : s.size ≤ 1000000) (ha : asc s) : Ret Tryz.prog 51 #[.string s] W fun v W' => v = retCd ea (parseCd s) ∧ Own W noX [] W' := by
  cases hp : parseIp (slH s) with
  | none => exact cidr_Parse_n I ea s W hG hE h3 h0 h7 hs ha hp
  | some x0 => exact cidr_Parse_s I ea s x0 W hG hE h3 h0 h7 hs ha hp
set_option maxRecDepth 20000 in
theorem cidr_Format (c : Pt) (W : World) (hG : LibW W) : Ret Tryz.prog 55 #[ptV c] W fun v W' => v = .string (fmtCd c) ∧ Own W noX [] W' := by
  refine enter Tryz.func55 rfl (n := 14) rfl (by kernel_rfl) (E0 := [(0, ptV c)]) (by kernel_rfl) ?_
  intro a hF; have hO := Own.start W noX
  refine wp_seq_k fun K1 hK1 => ?_
  refine wp_region_lit ?_
  refine L_new hF hO (by kernel_rfl) (by kernel_rfl) (vf := fun b => .pointer (some ⟨b, 0, none⟩)) (ob := .cells #[.bool c.ip.six, .int .u8 ((c.ip.b0.toNat : Int)), .int .u8 ((c.ip.b1.toNat : Int)), .int .u8 ((c.ip.b2.toNat : Int)), .int .u8 ((c.ip.b3.toNat : Int)), .int .u8 ((c.ip.b4.toNat : Int)), .int .u8 ((c.ip.b5.toNat : Int)), .int .u8 ((c.ip.b6.toNat : Int)), .int .u8 ((c.ip.b7.toNat : Int)), .int .u8 ((c.ip.b8.toNat : Int)), .int .u8 ((c.ip.b9.toNat : Int)), .int .u8 ((c.ip.b10.toNat : Int)), .int .u8 ((c.ip.b11.toNat : Int)), .int .u8 ((c.ip.b12.toNat : Int)), .int .u8 ((c.ip.b13.toNat : Int)), .int .u8 ((c.ip.b14.toNat : Int)), .int .u8 ((c.ip.b15.toNat : Int)), .int .i64 (c.port)] 68) (by kernel_rfl) (by kernel_rfl) ?_
  clear hF hO; intro b1 W1 a hO hF
  refine Vp hF (.string (⟨#[]⟩ : ByteArray)) ?_; clear hF; intro a hF
  refine L_nil ?_
  refine hK1 _ _ ?_
  refine wp_seq_k fun K2 hK2 => ?_
  refine wp_seq_k fun K3 hK3 => ?_
  refine wp_region_lit ?_
  refine Vr hF (.agg #[.bool c.ip.six, .int .u8 ((c.ip.b0.toNat : Int)), .int .u8 ((c.ip.b1.toNat : Int)), .int .u8 ((c.ip.b2.toNat : Int)), .int .u8 ((c.ip.b3.toNat : Int)), .int .u8 ((c.ip.b4.toNat : Int)), .int .u8 ((c.ip.b5.toNat : Int)), .int .u8 ((c.ip.b6.toNat : Int)), .int .u8 ((c.ip.b7.toNat : Int)), .int .u8 ((c.ip.b8.toNat : Int)), .int .u8 ((c.ip.b9.toNat : Int)), .int .u8 ((c.ip.b10.toNat : Int)), .int .u8 ((c.ip.b11.toNat : Int)), .int .u8 ((c.ip.b12.toNat : Int)), .int .u8 ((c.ip.b13.toNat : Int)), .int .u8 ((c.ip.b14.toNat : Int)), .int .u8 ((c.ip.b15.toNat : Int)), .int .i64 (c.port)]) (x_load (p := .pointer (some ⟨b1, 0, none⟩)) rfl (by kernel_rfl) (run_loadA (k := 18) (by kernel_rfl) (by kernel_rfl) (hO.blk List.mem_cons_self) (by kernel_rfl) (by kernel_rfl))) ?_; clear hF; intro a hF
  refine Lc hF (cidr_Right c W1) ?_
  clear hF; rintro _ W2 a ⟨rfl, hk⟩ hF
  replace hO := hO.call0 hk; clear hk
  refine Vp hF (.bool (!(rightCd c))) ?_; clear hF; intro a hF
  refine L_nil ?_
  refine hK3 _ _ ?_
  cases q1 : (rightCd c : Bool)
  ·
    replace hF := hF.know (d := 5) (v' := .bool true) (by kernel_rfl) (congrArg Value.bool (notT q1))
    refine cond_t hF (by kernel_rfl) (by kernel_rfl) ?_
    refine wp_seq_k fun K4 hK4 => ?_
    refine wp_region_lit ?_
    refine Vp hF (.string (⟨#[]⟩ : ByteArray)) ?_; clear hF; intro a hF
    refine L_nil ?_
    refine hK4 _ _ ?_
    refine wp_ret ?_
    refine then_ret ?_
    -- way 1: ¬ rightCd c
    refine ret1 hF (v := .string (⟨#[]⟩ : ByteArray)) rfl (resT (by kernel_rfl)) (by refine ⟨?_, hO.nil⟩; first | (rw [fmtCd_no (by assumption)]; done) | (rw [fmtCd_yes (by assumption)]; done)) .ret (.inl rfl)
  ·
    replace hF := hF.know (d := 5) (v' := .bool false) (by kernel_rfl) (congrArg Value.bool (notF q1))
    refine cond_f hF (by kernel_rfl) (by kernel_rfl) ?_
    refine wp_skip ?_
    refine hK2 _ _ ?_
    refine wp_seq_k fun K5 hK5 => ?_
    refine A_start (fun Wx => Own W noX [.blk b1 (.cells #[.bool c.ip.six, .int .u8 ((c.ip.b0.toNat : Int)), .int .u8 ((c.ip.b1.toNat : Int)), .int .u8 ((c.ip.b2.toNat : Int)), .int .u8 ((c.ip.b3.toNat : Int)), .int .u8 ((c.ip.b4.toNat : Int)), .int .u8 ((c.ip.b5.toNat : Int)), .int .u8 ((c.ip.b6.toNat : Int)), .int .u8 ((c.ip.b7.toNat : Int)), .int .u8 ((c.ip.b8.toNat : Int)), .int .u8 ((c.ip.b9.toNat : Int)), .int .u8 ((c.ip.b10.toNat : Int)), .int .u8 ((c.ip.b11.toNat : Int)), .int .u8 ((c.ip.b12.toNat : Int)), .int .u8 ((c.ip.b13.toNat : Int)), .int .u8 ((c.ip.b14.toNat : Int)), .int .u8 ((c.ip.b15.toNat : Int)), .int .i64 (c.port)] 68 (0, 0))] Wx) (by kernel_rfl) ?_
    replace hO := hO.drewN 1
    generalize hWd : ({ W2 with drawn := W2.drawn + 1 } : World) = W2_d at hO ⊢; clear hWd
    refine Tk 0 hF (.pointer (some ⟨b1, 0, none⟩)) (fun Wx _ => by kernel_rfl) (hO.sub (.cons_cons _ (List.nil_sublist _))) ?_; clear hF; intro a hF
    refine Tk 1 hF (.agg #[.bool c.ip.six, .int .u8 ((c.ip.b0.toNat : Int)), .int .u8 ((c.ip.b1.toNat : Int)), .int .u8 ((c.ip.b2.toNat : Int)), .int .u8 ((c.ip.b3.toNat : Int)), .int .u8 ((c.ip.b4.toNat : Int)), .int .u8 ((c.ip.b5.toNat : Int)), .int .u8 ((c.ip.b6.toNat : Int)), .int .u8 ((c.ip.b7.toNat : Int)), .int .u8 ((c.ip.b8.toNat : Int)), .int .u8 ((c.ip.b9.toNat : Int)), .int .u8 ((c.ip.b10.toNat : Int)), .int .u8 ((c.ip.b11.toNat : Int)), .int .u8 ((c.ip.b12.toNat : Int)), .int .u8 ((c.ip.b13.toNat : Int)), .int .u8 ((c.ip.b14.toNat : Int)), .int .u8 ((c.ip.b15.toNat : Int))]) (fun Wx hO => x_load (p := .pointer (some ⟨b1, 0, none⟩)) rfl (by kernel_rfl) (run_loadA (k := 17) (by kernel_rfl) (by kernel_rfl) (hO.blk List.mem_cons_self) (by kernel_rfl) (by kernel_rfl))) (hO.sub (.cons_cons _ (List.nil_sublist _))) ?_; clear hF; intro a hF
    refine Tk 4 hF (.pointer (some ⟨b1, 17, none⟩)) (fun Wx _ => by kernel_rfl) (hO.sub (.cons_cons _ (List.nil_sublist _))) ?_; clear hF; intro a hF
    refine Tk 5 hF (.int .i64 (c.port)) (fun Wx hO => x_load (p := .pointer (some ⟨b1, 17, none⟩)) rfl (by kernel_rfl) (run_load1 (by kernel_rfl) ((hO.cell List.mem_cons_self).trans (by kernel_rfl)))) (hO.sub (.cons_cons _ (List.nil_sublist _))) ?_; clear hF; intro a hF
    refine A_one (i := 2) (listed' := #[true, true, true, false, true, true, false, false, false]) (by kernel_rfl) rfl (by kernel_rfl) ?_
    refine OpK.lc hF (addr_Format c.ip W2_d (hG.own hO)) ?_
    clear hF; rintro _ W3 a ⟨rfl, hk⟩ hF
    replace hO := hO.call0 hk; clear hk
    refine ⟨hO.sub (.cons_cons _ (List.nil_sublist _)), ?_⟩
    refine Tk 3 hF (.string ((fmtS c.ip) ++ (⟨#[47]⟩ : ByteArray))) (fun Wx _ => (x_cat (s := fmtS c.ip) (t := (⟨#[47]⟩ : ByteArray)) rfl (by kernel_rfl) (by kernel_rfl) (by (first | omega | (have hb := rightCd_bd (c := c) (by assumption); omega) | (have hb := rightCd_bd (c := c) (by assumption); have h1 := fmtS_len c.ip; have h2 := itoa_size (n := c.port) (by omega) (by omega); (try simp only [ByteArray.size_append]); (simp only [ByteArray.size, List.size_toArray, List.length_cons, List.length_nil] at *); omega))))) (hO.sub (.cons_cons _ (List.nil_sublist _))) ?_; clear hF; intro a hF
    refine A_one (i := 6) (listed' := #[true, true, true, true, true, true, true, false, false]) (by kernel_rfl) rfl (by kernel_rfl) ?_
    refine OpK.lc hF (itoa_ret c.port W3 (hG.own hO) (by (first | omega | (have hb := rightCd_bd (c := c) (by assumption); omega) | (have hb := rightCd_bd (c := c) (by assumption); have h1 := fmtS_len c.ip; have h2 := itoa_size (n := c.port) (by omega) (by omega); (try simp only [ByteArray.size_append]); (simp only [ByteArray.size, List.size_toArray, List.length_cons, List.length_nil] at *); omega))) (by (first | omega | (have hb := rightCd_bd (c := c) (by assumption); omega) | (have hb := rightCd_bd (c := c) (by assumption); have h1 := fmtS_len c.ip; have h2 := itoa_size (n := c.port) (by omega) (by omega); (try simp only [ByteArray.size_append]); (simp only [ByteArray.size, List.size_toArray, List.length_cons, List.length_nil] at *); omega)))) ?_
    clear hF; rintro _ W4 a ⟨rfl, hk⟩ hF
    replace hO := hO.call0 hk; clear hk
    refine ⟨hO.sub (.cons_cons _ (List.nil_sublist _)), ?_⟩
    refine Tk 7 hF (.string (((fmtS c.ip) ++ (⟨#[47]⟩ : ByteArray)) ++ (⟨(Lib.itoa c.port).toArray⟩ : ByteArray))) (fun Wx _ => (x_cat (s := (fmtS c.ip) ++ (⟨#[47]⟩ : ByteArray)) (t := (⟨(Lib.itoa c.port).toArray⟩ : ByteArray)) rfl (by kernel_rfl) (by kernel_rfl) (by (first | omega | (have hb := rightCd_bd (c := c) (by assumption); omega) | (have hb := rightCd_bd (c := c) (by assumption); have h1 := fmtS_len c.ip; have h2 := itoa_size (n := c.port) (by omega) (by omega); (try simp only [ByteArray.size_append]); (simp only [ByteArray.size, List.size_toArray, List.length_cons, List.length_nil] at *); omega))))) (hO.sub (.cons_cons _ (List.nil_sublist _))) ?_; clear hF; intro a hF
    refine Tk 8 hF (.string (((fmtS c.ip) ++ (⟨#[47]⟩ : ByteArray)) ++ (⟨(Lib.itoa c.port).toArray⟩ : ByteArray))) (fun Wx _ => by kernel_rfl) (hO.sub (.cons_cons _ (List.nil_sublist _))) ?_; clear hF; intro a hF
    refine A_done (by kernel_rfl) ?_
    refine hK5 _ _ ?_
    refine wp_ret ?_
    -- way 2: rightCd c
    refine ret1 hF (v := .string (((fmtS c.ip) ++ (⟨#[47]⟩ : ByteArray)) ++ (⟨(Lib.itoa c.port).toArray⟩ : ByteArray))) rfl (resT (by kernel_rfl)) (by refine ⟨?_, hO.nil⟩; first | (rw [fmtCd_no (by assumption)]; done) | (rw [fmtCd_yes (by assumption)]; done)) .ret (.inl rfl)

theorem ref03_CutI (x : Ip) (n : Int) (W : World) (h0 : 0 ≤ n) (h1 : n ≤ 128) : Ret Tryz.prog 65 #[ipV x, .int .i64 n] W fun v W' => v = ipV (cutIp x n) ∧ Own W noX [] W' := by
  obtain ⟨m, rfl⟩ := Int.eq_ofNat_of_zero_le h0
  exact ref03_Cut x m W (by omega)
set_option maxRecDepth 20000 in
theorem cidr_Of (I : List Nat) (ea : Nat → Addr) (x : Ip) (n : Int) (W : World) (hG : LibW W) (hE : Errs I ea W) (h3 : I.contains 3 = true) (h0 : I.contains 0 = true) (h7 : I.contains 7 = true) : Ret Tryz.prog 63 #[ipV x, .int .i64 (n)] W fun v W' => v = retCd ea (ofCd x n) ∧ Own W noX [] W' := by
  refine enter Tryz.func63 rfl (n := 24) rfl (by kernel_rfl) (E0 := [(1, .int .i64 (n)), (0, ipV x)]) (by kernel_rfl) ?_
  intro a hF; have hO := Own.start W noX
  refine wp_seq_k fun K1 hK1 => ?_
  refine wp_region_lit ?_
  refine L_new hF hO (by kernel_rfl) (by kernel_rfl) (vf := fun b => .pointer (some ⟨b, 0, none⟩)) (ob := .cells #[.bool x.six, .int .u8 ((x.b0.toNat : Int)), .int .u8 ((x.b1.toNat : Int)), .int .u8 ((x.b2.toNat : Int)), .int .u8 ((x.b3.toNat : Int)), .int .u8 ((x.b4.toNat : Int)), .int .u8 ((x.b5.toNat : Int)), .int .u8 ((x.b6.toNat : Int)), .int .u8 ((x.b7.toNat : Int)), .int .u8 ((x.b8.toNat : Int)), .int .u8 ((x.b9.toNat : Int)), .int .u8 ((x.b10.toNat : Int)), .int .u8 ((x.b11.toNat : Int)), .int .u8 ((x.b12.toNat : Int)), .int .u8 ((x.b13.toNat : Int)), .int .u8 ((x.b14.toNat : Int)), .int .u8 ((x.b15.toNat : Int))] 33) (by kernel_rfl) (by kernel_rfl) ?_
  clear hF hO; intro b1 W1 a hO hF
  replace hO := hO.reblk (cs := #[.bool x.six, .int .u8 ((x.b0.toNat : Int)), .int .u8 ((x.b1.toNat : Int)), .int .u8 ((x.b2.toNat : Int)), .int .u8 ((x.b3.toNat : Int)), .int .u8 ((x.b4.toNat : Int)), .int .u8 ((x.b5.toNat : Int)), .int .u8 ((x.b6.toNat : Int)), .int .u8 ((x.b7.toNat : Int)), .int .u8 ((x.b8.toNat : Int)), .int .u8 ((x.b9.toNat : Int)), .int .u8 ((x.b10.toNat : Int)), .int .u8 ((x.b11.toNat : Int)), .int .u8 ((x.b12.toNat : Int)), .int .u8 ((x.b13.toNat : Int)), .int .u8 ((x.b14.toNat : Int)), .int .u8 ((x.b15.toNat : Int))]) (cs' := (ipL x).toArray) (by kernel_rfl) (.head _)
  refine L_new hF hO (by kernel_rfl) (by kernel_rfl) (vf := fun b => .pointer (some ⟨b, 0, none⟩)) (ob := .cells #[.bool false, .int .u8 0, .int .u8 0, .int .u8 0, .int .u8 0, .int .u8 0, .int .u8 0, .int .u8 0, .int .u8 0, .int .u8 0, .int .u8 0, .int .u8 0, .int .u8 0, .int .u8 0, .int .u8 0, .int .u8 0, .int .u8 0, .int .i64 0] 68) (by kernel_rfl) (by kernel_rfl) ?_
  clear hF hO; intro b2 W2 a hO hF
  refine Vp hF (.nilIface) ?_; clear hF; intro a hF
  refine L_nil ?_
  refine hK1 _ _ ?_
  refine wp_seq_k fun K2 hK2 => ?_
  refine wp_block ?_
  refine wp_seq_k fun K3 hK3 => ?_
  refine wp_region_lit ?_
  refine Vr hF (.agg #[.bool x.six, .int .u8 ((x.b0.toNat : Int)), .int .u8 ((x.b1.toNat : Int)), .int .u8 ((x.b2.toNat : Int)), .int .u8 ((x.b3.toNat : Int)), .int .u8 ((x.b4.toNat : Int)), .int .u8 ((x.b5.toNat : Int)), .int .u8 ((x.b6.toNat : Int)), .int .u8 ((x.b7.toNat : Int)), .int .u8 ((x.b8.toNat : Int)), .int .u8 ((x.b9.toNat : Int)), .int .u8 ((x.b10.toNat : Int)), .int .u8 ((x.b11.toNat : Int)), .int .u8 ((x.b12.toNat : Int)), .int .u8 ((x.b13.toNat : Int)), .int .u8 ((x.b14.toNat : Int)), .int .u8 ((x.b15.toNat : Int))]) (x_load (p := .pointer (some ⟨b1, 0, none⟩)) rfl (by kernel_rfl) (run_loadA (k := 17) (by kernel_rfl) (by kernel_rfl) (hO.blk (List.mem_cons_of_mem _ List.mem_cons_self)) (by kernel_rfl) (by kernel_rfl))) ?_; clear hF; intro a hF
  refine Lc hF (addr_Right x W2) ?_
  clear hF; rintro _ W3 a ⟨rfl, hk⟩ hF
  replace hO := hO.call0 hk; clear hk
  refine Vp hF (.bool (!(rightIp x))) ?_; clear hF; intro a hF
  refine Vp hF (.bool (!(rightIp x))) ?_; clear hF; intro a hF
  refine L_nil ?_
  refine hK3 _ _ ?_
  cases q1 : (rightIp x : Bool)
  ·
    replace hF := hF.know (d := 6) (v' := .bool true) (by kernel_rfl) (congrArg Value.bool (notT q1))
    refine cond_t hF (by kernel_rfl) (by kernel_rfl) ?_
    refine wp_seq_k fun K4 hK4 => ?_
    refine A_start (fun Wx => Own W noX [.blk b1 (.cells (ipL x).toArray 33 (0, 0))] Wx) (by kernel_rfl) ?_
    replace hO := hO.drewN 1
    generalize hWd : ({ W3 with drawn := W3.drawn + 1 } : World) = W3_d at hO ⊢; clear hWd
    refine Tk 0 hF (.agg #[.bool false, .int .u8 0, .int .u8 0, .int .u8 0, .int .u8 0, .int .u8 0, .int .u8 0, .int .u8 0, .int .u8 0, .int .u8 0, .int .u8 0, .int .u8 0, .int .u8 0, .int .u8 0, .int .u8 0, .int .u8 0, .int .u8 0, .int .i64 0]) (fun Wx _ => by kernel_rfl) (hO.sub (.cons _ (.cons_cons _ (List.nil_sublist _)))) ?_; clear hF; intro a hF
    refine Tk 1 hF (errV ea 7) (fun Wx hO => x_load (p := .pointer (some ⟨8, 0, none⟩)) rfl (by kernel_rfl) (hE.load hO 7 8 h7 (by kernel_rfl))) (hO.sub (.cons _ (.cons_cons _ (List.nil_sublist _)))) ?_; clear hF; intro a hF
    refine A_one (i := 2) (listed' := #[true, true, true, false]) (by kernel_rfl) rfl (by kernel_rfl) ?_
    obtain ⟨W4, hst, hO1⟩ := run_storeAt (P := Tryz.prog) (k := 18) (T := 68) (off := 0) (v := .agg #[.bool false, .int .u8 0, .int .u8 0, .int .u8 0, .int .u8 0, .int .u8 0, .int .u8 0, .int .u8 0, .int .u8 0, .int .u8 0, .int .u8 0, .int .u8 0, .int .u8 0, .int .u8 0, .int .u8 0, .int .u8 0, .int .u8 0, .int .i64 0]) (cs := #[.bool false, .int .u8 0, .int .u8 0, .int .u8 0, .int .u8 0, .int .u8 0, .int .u8 0, .int .u8 0, .int .u8 0, .int .u8 0, .int .u8 0, .int .u8 0, .int .u8 0, .int .u8 0, .int .u8 0, .int .u8 0, .int .u8 0, .int .i64 0]) (cs' := #[.bool false, .int .u8 0, .int .u8 0, .int .u8 0, .int .u8 0, .int .u8 0, .int .u8 0, .int .u8 0, .int .u8 0, .int .u8 0, .int .u8 0, .int .u8 0, .int .u8 0, .int .u8 0, .int .u8 0, .int .u8 0, .int .u8 0, .int .i64 0]) hO (by kernel_rfl) (by kernel_rfl) (by kernel_rfl) (Nat.le_of_ble_eq_true (by kernel_rfl)) (by kernel_rfl) (.head _)
    refine OpK.skip hF (by kernel_rfl) (by kernel_rfl) (x_store (p := .pointer (some ⟨b2, 0, none⟩)) (v := .agg #[.bool false, .int .u8 0, .int .u8 0, .int .u8 0, .int .u8 0, .int .u8 0, .int .u8 0, .int .u8 0, .int .u8 0, .int .u8 0, .int .u8 0, .int .u8 0, .int .u8 0, .int .u8 0, .int .u8 0, .int .u8 0, .int .u8 0, .int .i64 0]) rfl (by kernel_rfl) (by kernel_rfl) hst) (by kernel_rfl) ?_
    clear hst hF; intro a hF; replace hO := hO1; clear hO1
    refine ⟨hO.sub (.cons _ (.cons_cons _ (List.nil_sublist _))), ?_⟩
    refine Tk 3 hF (errV ea 7) (fun Wx _ => by kernel_rfl) (hO.sub (.cons _ (.cons_cons _ (List.nil_sublist _)))) ?_; clear hF; intro a hF
    refine A_done (by kernel_rfl) ?_
    refine hK4 _ _ ?_
    refine wp_ret ?_
    refine block_ret ?_
    refine then_ret ?_
    -- way 1: ¬ rightIp x
    refine ret2 hF (v := .agg #[.bool false, .int .u8 0, .int .u8 0, .int .u8 0, .int .u8 0, .int .u8 0, .int .u8 0, .int .u8 0, .int .u8 0, .int .u8 0, .int .u8 0, .int .u8 0, .int .u8 0, .int .u8 0, .int .u8 0, .int .u8 0, .int .u8 0, .int .i64 0]) (u := errV ea 7) rfl (resC (ad := ⟨b2, 0, none⟩) (by kernel_rfl) (run_loadA (k := 18) (by kernel_rfl) (by kernel_rfl) (hO.blk List.mem_cons_self) (by kernel_rfl) (by kernel_rfl))) (resT (by kernel_rfl)) (by refine ⟨?_, hO.nil⟩; unfold ofCd; first | (rw [if_neg (by simp [*])]; rfl) | (rw [if_pos (by assumption), if_neg (by simp [*])]; rfl) | (rw [if_pos (by assumption), if_pos (by assumption)]; rfl)) .ret (.inl rfl)
  ·
    replace hF := hF.know (d := 6) (v' := .bool false) (by kernel_rfl) (congrArg Value.bool (notF q1))
    refine cond_f hF (by kernel_rfl) (by kernel_rfl) ?_
    refine wp_seq_k fun K5 hK5 => ?_
    refine wp_region_lit ?_
    refine Vr hF (.agg #[.bool x.six, .int .u8 ((x.b0.toNat : Int)), .int .u8 ((x.b1.toNat : Int)), .int .u8 ((x.b2.toNat : Int)), .int .u8 ((x.b3.toNat : Int)), .int .u8 ((x.b4.toNat : Int)), .int .u8 ((x.b5.toNat : Int)), .int .u8 ((x.b6.toNat : Int)), .int .u8 ((x.b7.toNat : Int)), .int .u8 ((x.b8.toNat : Int)), .int .u8 ((x.b9.toNat : Int)), .int .u8 ((x.b10.toNat : Int)), .int .u8 ((x.b11.toNat : Int)), .int .u8 ((x.b12.toNat : Int)), .int .u8 ((x.b13.toNat : Int)), .int .u8 ((x.b14.toNat : Int)), .int .u8 ((x.b15.toNat : Int))]) (x_load (p := .pointer (some ⟨b1, 0, none⟩)) rfl (by kernel_rfl) (run_loadA (k := 17) (by kernel_rfl) (by kernel_rfl) (hO.blk (List.mem_cons_of_mem _ List.mem_cons_self)) (by kernel_rfl) (by kernel_rfl))) ?_; clear hF; intro a hF
    refine Vp hF (.int .i64 (n)) ?_; clear hF; intro a hF
    refine Lc hF (cidr_fits x n W3) ?_
    clear hF; rintro _ W5 a ⟨rfl, hk⟩ hF
    replace hO := hO.call0 hk; clear hk
    refine Vp hF (.bool (!(fitsIp x n))) ?_; clear hF; intro a hF
    refine Vp hF (.bool (!(fitsIp x n))) ?_; clear hF; intro a hF
    refine L_nil ?_
    refine hK5 _ _ ?_
    cases q2 : (fitsIp x n : Bool)
    ·
      replace hF := hF.know (d := 12) (v' := .bool true) (by kernel_rfl) (congrArg Value.bool (notT q2))
      refine cond_t hF (by kernel_rfl) (by kernel_rfl) ?_
      refine wp_seq_k fun K6 hK6 => ?_
      refine A_start (fun Wx => Own W noX [.blk b1 (.cells (ipL x).toArray 33 (0, 0))] Wx) (by kernel_rfl) ?_
      replace hO := hO.drewN 1
      generalize hWd : ({ W5 with drawn := W5.drawn + 1 } : World) = W5_d at hO ⊢; clear hWd
      refine Tk 0 hF (.agg #[.bool false, .int .u8 0, .int .u8 0, .int .u8 0, .int .u8 0, .int .u8 0, .int .u8 0, .int .u8 0, .int .u8 0, .int .u8 0, .int .u8 0, .int .u8 0, .int .u8 0, .int .u8 0, .int .u8 0, .int .u8 0, .int .u8 0, .int .i64 0]) (fun Wx _ => by kernel_rfl) (hO.sub (.cons _ (.cons_cons _ (List.nil_sublist _)))) ?_; clear hF; intro a hF
      refine Tk 1 hF (errV ea 0) (fun Wx hO => x_load (p := .pointer (some ⟨1, 0, none⟩)) rfl (by kernel_rfl) (hE.load hO 0 1 h0 (by kernel_rfl))) (hO.sub (.cons _ (.cons_cons _ (List.nil_sublist _)))) ?_; clear hF; intro a hF
      refine A_one (i := 2) (listed' := #[true, true, true, false]) (by kernel_rfl) rfl (by kernel_rfl) ?_
      obtain ⟨W6, hst, hO1⟩ := run_storeAt (P := Tryz.prog) (k := 18) (T := 68) (off := 0) (v := .agg #[.bool false, .int .u8 0, .int .u8 0, .int .u8 0, .int .u8 0, .int .u8 0, .int .u8 0, .int .u8 0, .int .u8 0, .int .u8 0, .int .u8 0, .int .u8 0, .int .u8 0, .int .u8 0, .int .u8 0, .int .u8 0, .int .u8 0, .int .i64 0]) (cs := #[.bool false, .int .u8 0, .int .u8 0, .int .u8 0, .int .u8 0, .int .u8 0, .int .u8 0, .int .u8 0, .int .u8 0, .int .u8 0, .int .u8 0, .int .u8 0, .int .u8 0, .int .u8 0, .int .u8 0, .int .u8 0, .int .u8 0, .int .i64 0]) (cs' := #[.bool false, .int .u8 0, .int .u8 0, .int .u8 0, .int .u8 0, .int .u8 0, .int .u8 0, .int .u8 0, .int .u8 0, .int .u8 0, .int .u8 0, .int .u8 0, .int .u8 0, .int .u8 0, .int .u8 0, .int .u8 0, .int .u8 0, .int .i64 0]) hO (by kernel_rfl) (by kernel_rfl) (by kernel_rfl) (Nat.le_of_ble_eq_true (by kernel_rfl)) (by kernel_rfl) (.head _)
      refine OpK.skip hF (by kernel_rfl) (by kernel_rfl) (x_store (p := .pointer (some ⟨b2, 0, none⟩)) (v := .agg #[.bool false, .int .u8 0, .int .u8 0, .int .u8 0, .int .u8 0, .int .u8 0, .int .u8 0, .int .u8 0, .int .u8 0, .int .u8 0, .int .u8 0, .int .u8 0, .int .u8 0, .int .u8 0, .int .u8 0, .int .u8 0, .int .u8 0, .int .i64 0]) rfl (by kernel_rfl) (by kernel_rfl) hst) (by kernel_rfl) ?_
      clear hst hF; intro a hF; replace hO := hO1; clear hO1
      refine ⟨hO.sub (.cons _ (.cons_cons _ (List.nil_sublist _))), ?_⟩
      refine Tk 3 hF (errV ea 0) (fun Wx _ => by kernel_rfl) (hO.sub (.cons _ (.cons_cons _ (List.nil_sublist _)))) ?_; clear hF; intro a hF
      refine A_done (by kernel_rfl) ?_
      refine hK6 _ _ ?_
      refine wp_ret ?_
      refine block_ret ?_
      refine then_ret ?_
      -- way 2: rightIp x; ¬ fitsIp x n
      refine ret2 hF (v := .agg #[.bool false, .int .u8 0, .int .u8 0, .int .u8 0, .int .u8 0, .int .u8 0, .int .u8 0, .int .u8 0, .int .u8 0, .int .u8 0, .int .u8 0, .int .u8 0, .int .u8 0, .int .u8 0, .int .u8 0, .int .u8 0, .int .u8 0, .int .i64 0]) (u := errV ea 0) rfl (resC (ad := ⟨b2, 0, none⟩) (by kernel_rfl) (run_loadA (k := 18) (by kernel_rfl) (by kernel_rfl) (hO.blk List.mem_cons_self) (by kernel_rfl) (by kernel_rfl))) (resT (by kernel_rfl)) (by refine ⟨?_, hO.nil⟩; unfold ofCd; first | (rw [if_neg (by simp [*])]; rfl) | (rw [if_pos (by assumption), if_neg (by simp [*])]; rfl) | (rw [if_pos (by assumption), if_pos (by assumption)]; rfl)) .ret (.inl rfl)
    ·
      replace hF := hF.know (d := 12) (v' := .bool false) (by kernel_rfl) (congrArg Value.bool (notF q2))
      refine cond_f hF (by kernel_rfl) (by kernel_rfl) ?_
      refine wp_skip ?_
      refine block_normal ?_
      refine hK2 _ _ ?_
      refine wp_seq_k fun K7 hK7 => ?_
      refine wp_region_lit ?_
      refine Vr hF (.agg #[.bool x.six, .int .u8 ((x.b0.toNat : Int)), .int .u8 ((x.b1.toNat : Int)), .int .u8 ((x.b2.toNat : Int)), .int .u8 ((x.b3.toNat : Int)), .int .u8 ((x.b4.toNat : Int)), .int .u8 ((x.b5.toNat : Int)), .int .u8 ((x.b6.toNat : Int)), .int .u8 ((x.b7.toNat : Int)), .int .u8 ((x.b8.toNat : Int)), .int .u8 ((x.b9.toNat : Int)), .int .u8 ((x.b10.toNat : Int)), .int .u8 ((x.b11.toNat : Int)), .int .u8 ((x.b12.toNat : Int)), .int .u8 ((x.b13.toNat : Int)), .int .u8 ((x.b14.toNat : Int)), .int .u8 ((x.b15.toNat : Int))]) (x_load (p := .pointer (some ⟨b1, 0, none⟩)) rfl (by kernel_rfl) (run_loadA (k := 17) (by kernel_rfl) (by kernel_rfl) (hO.blk (List.mem_cons_of_mem _ List.mem_cons_self)) (by kernel_rfl) (by kernel_rfl))) ?_; clear hF; intro a hF
      refine Vp hF (.int .i64 (n)) ?_; clear hF; intro a hF
      refine Lc hF (cidr_cut x n W5 (by (first | omega | (have hb := fits_iff.1 (show fitsIp x n = true by assumption); have hw := width_le x; omega))) (by (first | omega | (have hb := fits_iff.1 (show fitsIp x n = true by assumption); have hw := width_le x; omega)))) ?_
      clear hF; rintro _ W7 a ⟨rfl, hk⟩ hF
      replace hO := hO.call0 hk; clear hk
      refine Vp hF (.int .i64 (n)) ?_; clear hF; intro a hF
      refine Vp hF (.agg #[.bool ((cutIp x n).six), .int .u8 (((cutIp x n).b0.toNat : Int)), .int .u8 (((cutIp x n).b1.toNat : Int)), .int .u8 (((cutIp x n).b2.toNat : Int)), .int .u8 (((cutIp x n).b3.toNat : Int)), .int .u8 (((cutIp x n).b4.toNat : Int)), .int .u8 (((cutIp x n).b5.toNat : Int)), .int .u8 (((cutIp x n).b6.toNat : Int)), .int .u8 (((cutIp x n).b7.toNat : Int)), .int .u8 (((cutIp x n).b8.toNat : Int)), .int .u8 (((cutIp x n).b9.toNat : Int)), .int .u8 (((cutIp x n).b10.toNat : Int)), .int .u8 (((cutIp x n).b11.toNat : Int)), .int .u8 (((cutIp x n).b12.toNat : Int)), .int .u8 (((cutIp x n).b13.toNat : Int)), .int .u8 (((cutIp x n).b14.toNat : Int)), .int .u8 (((cutIp x n).b15.toNat : Int)), .int .i64 (n)]) ?_; clear hF; intro a hF
      obtain ⟨W8, hst, hO1⟩ := run_storeAt (P := Tryz.prog) (k := 18) (T := 68) (off := 0) (v := .agg #[.bool ((cutIp x n).six), .int .u8 (((cutIp x n).b0.toNat : Int)), .int .u8 (((cutIp x n).b1.toNat : Int)), .int .u8 (((cutIp x n).b2.toNat : Int)), .int .u8 (((cutIp x n).b3.toNat : Int)), .int .u8 (((cutIp x n).b4.toNat : Int)), .int .u8 (((cutIp x n).b5.toNat : Int)), .int .u8 (((cutIp x n).b6.toNat : Int)), .int .u8 (((cutIp x n).b7.toNat : Int)), .int .u8 (((cutIp x n).b8.toNat : Int)), .int .u8 (((cutIp x n).b9.toNat : Int)), .int .u8 (((cutIp x n).b10.toNat : Int)), .int .u8 (((cutIp x n).b11.toNat : Int)), .int .u8 (((cutIp x n).b12.toNat : Int)), .int .u8 (((cutIp x n).b13.toNat : Int)), .int .u8 (((cutIp x n).b14.toNat : Int)), .int .u8 (((cutIp x n).b15.toNat : Int)), .int .i64 (n)]) (cs := #[.bool false, .int .u8 0, .int .u8 0, .int .u8 0, .int .u8 0, .int .u8 0, .int .u8 0, .int .u8 0, .int .u8 0, .int .u8 0, .int .u8 0, .int .u8 0, .int .u8 0, .int .u8 0, .int .u8 0, .int .u8 0, .int .u8 0, .int .i64 0]) (cs' := #[.bool ((cutIp x n).six), .int .u8 (((cutIp x n).b0.toNat : Int)), .int .u8 (((cutIp x n).b1.toNat : Int)), .int .u8 (((cutIp x n).b2.toNat : Int)), .int .u8 (((cutIp x n).b3.toNat : Int)), .int .u8 (((cutIp x n).b4.toNat : Int)), .int .u8 (((cutIp x n).b5.toNat : Int)), .int .u8 (((cutIp x n).b6.toNat : Int)), .int .u8 (((cutIp x n).b7.toNat : Int)), .int .u8 (((cutIp x n).b8.toNat : Int)), .int .u8 (((cutIp x n).b9.toNat : Int)), .int .u8 (((cutIp x n).b10.toNat : Int)), .int .u8 (((cutIp x n).b11.toNat : Int)), .int .u8 (((cutIp x n).b12.toNat : Int)), .int .u8 (((cutIp x n).b13.toNat : Int)), .int .u8 (((cutIp x n).b14.toNat : Int)), .int .u8 (((cutIp x n).b15.toNat : Int)), .int .i64 (n)]) hO (by kernel_rfl) (by kernel_rfl) (by kernel_rfl) (Nat.le_of_ble_eq_true (by kernel_rfl)) (by kernel_rfl) (.head _)
      refine L_skip hF (by kernel_rfl) (by kernel_rfl) (x_store (p := .pointer (some ⟨b2, 0, none⟩)) (v := .agg #[.bool ((cutIp x n).six), .int .u8 (((cutIp x n).b0.toNat : Int)), .int .u8 (((cutIp x n).b1.toNat : Int)), .int .u8 (((cutIp x n).b2.toNat : Int)), .int .u8 (((cutIp x n).b3.toNat : Int)), .int .u8 (((cutIp x n).b4.toNat : Int)), .int .u8 (((cutIp x n).b5.toNat : Int)), .int .u8 (((cutIp x n).b6.toNat : Int)), .int .u8 (((cutIp x n).b7.toNat : Int)), .int .u8 (((cutIp x n).b8.toNat : Int)), .int .u8 (((cutIp x n).b9.toNat : Int)), .int .u8 (((cutIp x n).b10.toNat : Int)), .int .u8 (((cutIp x n).b11.toNat : Int)), .int .u8 (((cutIp x n).b12.toNat : Int)), .int .u8 (((cutIp x n).b13.toNat : Int)), .int .u8 (((cutIp x n).b14.toNat : Int)), .int .u8 (((cutIp x n).b15.toNat : Int)), .int .i64 (n)]) rfl (by kernel_rfl) (by kernel_rfl) hst) (by kernel_rfl) ?_
      clear hst hF; intro a hF; replace hO := hO1; clear hO1
      refine Vp hF (.nilIface) ?_; clear hF; intro a hF
      refine L_nil ?_
      refine hK7 _ _ ?_
      refine wp_ret ?_
      -- way 3: rightIp x; fitsIp x n
      refine ret2 hF (v := .agg #[.bool ((cutIp x n).six), .int .u8 (((cutIp x n).b0.toNat : Int)), .int .u8 (((cutIp x n).b1.toNat : Int)), .int .u8 (((cutIp x n).b2.toNat : Int)), .int .u8 (((cutIp x n).b3.toNat : Int)), .int .u8 (((cutIp x n).b4.toNat : Int)), .int .u8 (((cutIp x n).b5.toNat : Int)), .int .u8 (((cutIp x n).b6.toNat : Int)), .int .u8 (((cutIp x n).b7.toNat : Int)), .int .u8 (((cutIp x n).b8.toNat : Int)), .int .u8 (((cutIp x n).b9.toNat : Int)), .int .u8 (((cutIp x n).b10.toNat : Int)), .int .u8 (((cutIp x n).b11.toNat : Int)), .int .u8 (((cutIp x n).b12.toNat : Int)), .int .u8 (((cutIp x n).b13.toNat : Int)), .int .u8 (((cutIp x n).b14.toNat : Int)), .int .u8 (((cutIp x n).b15.toNat : Int)), .int .i64 (n)]) (u := .nilIface) rfl (resC (ad := ⟨b2, 0, none⟩) (by kernel_rfl) (run_loadA (k := 18) (by kernel_rfl) (by kernel_rfl) (hO.blk List.mem_cons_self) (by kernel_rfl) (by kernel_rfl))) (resT (by kernel_rfl)) (by refine ⟨?_, hO.nil⟩; unfold ofCd; first | (rw [if_neg (by simp [*])]; rfl) | (rw [if_pos (by assumption), if_neg (by simp [*])]; rfl) | (rw [if_pos (by assumption), if_pos (by assumption)]; rfl)) .ret (.inl rfl)

set_option maxRecDepth 20000 in
theorem law03_alive (I : List Nat) (ea : Nat → Addr) (W : World) (hG : LibW W) (hE : Errs I ea W) (h3 : I.contains 3 = true) (h0 : I.contains 0 = true) (h7 : I.contains 7 = true) : Ret Tryz.prog 50 #[] W fun v W' => v = .bool true ∧ Own W noX [] W' := by
  refine enter Tryz.func50 rfl (n := 20) rfl (by kernel_rfl) (E0 := []) (by kernel_rfl) ?_
  intro a hF; have hO := Own.start W noX
  refine wp_seq_k fun K1 hK1 => ?_
  refine wp_region_lit ?_
  refine Vp hF (.bool false) ?_; clear hF; intro a hF
  refine L_nil ?_
  refine hK1 _ _ ?_
  refine wp_seq_k fun K2 hK2 => ?_
  refine wp_region_lit ?_
  refine Lc hF ((cidr_Parse I ea tenT W (hG.own hO) (hE.own hO) h3 h0 h7 (by decide) ten_asc).mono fun v W' h => (⟨by rw [h.1, ten_parse]; rfl, h.2⟩ : v = .tuple #[.agg #[.bool false, .int .u8 10, .int .u8 0, .int .u8 0, .int .u8 0, .int .u8 0, .int .u8 0, .int .u8 0, .int .u8 0, .int .u8 0, .int .u8 0, .int .u8 0, .int .u8 0, .int .u8 0, .int .u8 0, .int .u8 0, .int .u8 0, .int .i64 8], .nilIface] ∧ Own W noX [] W')) ?_
  clear hF; rintro _ W1 a ⟨rfl, hk⟩ hF
  replace hO := hO.call0 hk; clear hk
  refine Vp hF (.tuple #[.agg #[.bool false, .int .u8 10, .int .u8 0, .int .u8 0, .int .u8 0, .int .u8 0, .int .u8 0, .int .u8 0, .int .u8 0, .int .u8 0, .int .u8 0, .int .u8 0, .int .u8 0, .int .u8 0, .int .u8 0, .int .u8 0, .int .u8 0, .int .i64 8], .nilIface]) ?_; clear hF; intro a hF
  refine Vp hF (.agg #[.bool false, .int .u8 10, .int .u8 0, .int .u8 0, .int .u8 0, .int .u8 0, .int .u8 0, .int .u8 0, .int .u8 0, .int .u8 0, .int .u8 0, .int .u8 0, .int .u8 0, .int .u8 0, .int .u8 0, .int .u8 0, .int .u8 0, .int .i64 8]) ?_; clear hF; intro a hF
  refine Vp hF (.nilIface) ?_; clear hF; intro a hF
  refine L_new hF hO (by kernel_rfl) (by kernel_rfl) (vf := fun b => .pointer (some ⟨b, 0, none⟩)) (ob := .cells #[.bool false, .int .u8 0, .int .u8 0, .int .u8 0, .int .u8 0, .int .u8 0, .int .u8 0, .int .u8 0, .int .u8 0, .int .u8 0, .int .u8 0, .int .u8 0, .int .u8 0, .int .u8 0, .int .u8 0, .int .u8 0, .int .u8 0, .int .i64 0] 68) (by kernel_rfl) (by kernel_rfl) ?_
  clear hF hO; intro b1 W2 a hO hF
  obtain ⟨W3, hst, hO1⟩ := run_storeAt (P := Tryz.prog) (k := 18) (T := 68) (off := 0) (v := .agg #[.bool false, .int .u8 10, .int .u8 0, .int .u8 0, .int .u8 0, .int .u8 0, .int .u8 0, .int .u8 0, .int .u8 0, .int .u8 0, .int .u8 0, .int .u8 0, .int .u8 0, .int .u8 0, .int .u8 0, .int .u8 0, .int .u8 0, .int .i64 8]) (cs := #[.bool false, .int .u8 0, .int .u8 0, .int .u8 0, .int .u8 0, .int .u8 0, .int .u8 0, .int .u8 0, .int .u8 0, .int .u8 0, .int .u8 0, .int .u8 0, .int .u8 0, .int .u8 0, .int .u8 0, .int .u8 0, .int .u8 0, .int .i64 0]) (cs' := #[.bool false, .int .u8 10, .int .u8 0, .int .u8 0, .int .u8 0, .int .u8 0, .int .u8 0, .int .u8 0, .int .u8 0, .int .u8 0, .int .u8 0, .int .u8 0, .int .u8 0, .int .u8 0, .int .u8 0, .int .u8 0, .int .u8 0, .int .i64 8]) hO (by kernel_rfl) (by kernel_rfl) (by kernel_rfl) (Nat.le_of_ble_eq_true (by kernel_rfl)) (by kernel_rfl) (.head _)
  refine L_skip hF (by kernel_rfl) (by kernel_rfl) (x_store (p := .pointer (some ⟨b1, 0, none⟩)) (v := .agg #[.bool false, .int .u8 10, .int .u8 0, .int .u8 0, .int .u8 0, .int .u8 0, .int .u8 0, .int .u8 0, .int .u8 0, .int .u8 0, .int .u8 0, .int .u8 0, .int .u8 0, .int .u8 0, .int .u8 0, .int .u8 0, .int .u8 0, .int .i64 8]) rfl (by kernel_rfl) (by kernel_rfl) hst) (by kernel_rfl) ?_
  clear hst hF; intro a hF; replace hO := hO1; clear hO1
  refine Vp hF (.nilIface) ?_; clear hF; intro a hF
  refine L_nil ?_
  refine hK2 _ _ ?_
  refine wp_seq_k fun K3 hK3 => ?_
  refine wp_region_lit ?_
  refine Vp hF (.nilIface) ?_; clear hF; intro a hF
  refine Vp hF (.bool true) ?_; clear hF; intro a hF
  refine Vp hF (.bool true) ?_; clear hF; intro a hF
  refine Vr hF (.agg #[.bool false, .int .u8 10, .int .u8 0, .int .u8 0, .int .u8 0, .int .u8 0, .int .u8 0, .int .u8 0, .int .u8 0, .int .u8 0, .int .u8 0, .int .u8 0, .int .u8 0, .int .u8 0, .int .u8 0, .int .u8 0, .int .u8 0, .int .i64 8]) (x_load (p := .pointer (some ⟨b1, 0, none⟩)) rfl (by kernel_rfl) (run_loadA (k := 18) (by kernel_rfl) (by kernel_rfl) (hO.blk List.mem_cons_self) (by kernel_rfl) (by kernel_rfl))) ?_; clear hF; intro a hF
  refine Vp hF (.agg #[.int .u8 10, .int .u8 1, .int .u8 2, .int .u8 3, .int .u8 0, .int .u8 0, .int .u8 0, .int .u8 0, .int .u8 0, .int .u8 0, .int .u8 0, .int .u8 0, .int .u8 0, .int .u8 0, .int .u8 0, .int .u8 0]) ?_; clear hF; intro a hF
  refine Vp hF (.agg #[.bool false, .int .u8 10, .int .u8 1, .int .u8 2, .int .u8 3, .int .u8 0, .int .u8 0, .int .u8 0, .int .u8 0, .int .u8 0, .int .u8 0, .int .u8 0, .int .u8 0, .int .u8 0, .int .u8 0, .int .u8 0, .int .u8 0]) ?_; clear hF; intro a hF
  refine Lc hF ((cidr_Contains tenCd ⟨false, 10, 1, 2, 3, 0, 0, 0, 0, 0, 0, 0, 0, 0, 0, 0, 0⟩ W3).mono fun v W' h => (⟨by rw [h.1, ten_cont], h.2⟩ : v = .bool true ∧ Own W3 noX [] W')) ?_
  clear hF; rintro _ W4 a ⟨rfl, hk⟩ hF
  replace hO := hO.call0 hk; clear hk
  refine Vp hF (.bool true) ?_; clear hF; intro a hF
  refine Vp hF (.bool true) ?_; clear hF; intro a hF
  refine Vr hF (.agg #[.bool false, .int .u8 10, .int .u8 0, .int .u8 0, .int .u8 0, .int .u8 0, .int .u8 0, .int .u8 0, .int .u8 0, .int .u8 0, .int .u8 0, .int .u8 0, .int .u8 0, .int .u8 0, .int .u8 0, .int .u8 0, .int .u8 0, .int .i64 8]) (x_load (p := .pointer (some ⟨b1, 0, none⟩)) rfl (by kernel_rfl) (run_loadA (k := 18) (by kernel_rfl) (by kernel_rfl) (hO.blk List.mem_cons_self) (by kernel_rfl) (by kernel_rfl))) ?_; clear hF; intro a hF
  refine Lc hF ((cidr_Format tenCd W4 (hG.own hO)).mono fun v W' h => (⟨by rw [h.1, ten_fmt]; rfl, h.2⟩ : v = .string (⟨#[49, 48, 46, 48, 46, 48, 46, 48, 47, 56]⟩ : ByteArray) ∧ Own W4 noX [] W')) ?_
  clear hF; rintro _ W5 a ⟨rfl, hk⟩ hF
  replace hO := hO.call0 hk; clear hk
  refine Vr hF (.bool true) (x_bool (x := strEq (⟨#[49, 48, 46, 48, 46, 48, 46, 48, 47, 56]⟩ : ByteArray) (⟨#[49, 48, 46, 48, 46, 48, 46, 48, 47, 56]⟩ : ByteArray)) (strEq_refl _) (by kernel_rfl)) ?_; clear hF; intro a hF
  refine Vp hF (.bool true) ?_; clear hF; intro a hF
  refine Vp hF (.bool true) ?_; clear hF; intro a hF
  refine L_nil ?_
  refine hK3 _ _ ?_
  refine wp_ret ?_
  -- way 1: 
  refine ret1 hF (v := .bool true) rfl (resT (by kernel_rfl)) (by refine ⟨?_, hO.nil⟩; first | rfl | (simp [*]; done)) .ret (.inl rfl)

set_option maxRecDepth 20000 in
theorem law03_CidrContains0 (I : List Nat) (ea : Nat → Addr) (xc xd : Pt) (xa : Ip) (W : World) (hG : LibW W) (hE : Errs I ea W) (h3 : I.contains 3 = true) (h0 : I.contains 0 = true) (h7 : I.contains 7 = true) (hI : I = errIs) (hr : rightIp xa = false) : Ret Tryz.prog 10 #[ptV xc, ptV xd, ipV xa] W fun v W' => v = .bool true ∧ Own W noX [] W' := by
  have hw := width_le xa
  refine enter Tryz.func10 rfl (n := 90) rfl (by kernel_rfl) (E0 := [(2, ipV xa), (1, ptV xd), (0, ptV xc)]) (by kernel_rfl) ?_
  intro a hF; have hO := Own.start W noX
  refine wp_seq_k fun K1 hK1 => ?_
  refine wp_region_lit ?_
  refine L_new hF hO (by kernel_rfl) (by kernel_rfl) (vf := fun b => .pointer (some ⟨b, 0, none⟩)) (ob := .cells #[.bool xc.ip.six, .int .u8 ((xc.ip.b0.toNat : Int)), .int .u8 ((xc.ip.b1.toNat : Int)), .int .u8 ((xc.ip.b2.toNat : Int)), .int .u8 ((xc.ip.b3.toNat : Int)), .int .u8 ((xc.ip.b4.toNat : Int)), .int .u8 ((xc.ip.b5.toNat : Int)), .int .u8 ((xc.ip.b6.toNat : Int)), .int .u8 ((xc.ip.b7.toNat : Int)), .int .u8 ((xc.ip.b8.toNat : Int)), .int .u8 ((xc.ip.b9.toNat : Int)), .int .u8 ((xc.ip.b10.toNat : Int)), .int .u8 ((xc.ip.b11.toNat : Int)), .int .u8 ((xc.ip.b12.toNat : Int)), .int .u8 ((xc.ip.b13.toNat : Int)), .int .u8 ((xc.ip.b14.toNat : Int)), .int .u8 ((xc.ip.b15.toNat : Int)), .int .i64 (xc.port)] 68) (by kernel_rfl) (by kernel_rfl) ?_
  clear hF hO; intro b1 W1 a hO hF
  refine L_new hF hO (by kernel_rfl) (by kernel_rfl) (vf := fun b => .pointer (some ⟨b, 0, none⟩)) (ob := .cells #[.bool xd.ip.six, .int .u8 ((xd.ip.b0.toNat : Int)), .int .u8 ((xd.ip.b1.toNat : Int)), .int .u8 ((xd.ip.b2.toNat : Int)), .int .u8 ((xd.ip.b3.toNat : Int)), .int .u8 ((xd.ip.b4.toNat : Int)), .int .u8 ((xd.ip.b5.toNat : Int)), .int .u8 ((xd.ip.b6.toNat : Int)), .int .u8 ((xd.ip.b7.toNat : Int)), .int .u8 ((xd.ip.b8.toNat : Int)), .int .u8 ((xd.ip.b9.toNat : Int)), .int .u8 ((xd.ip.b10.toNat : Int)), .int .u8 ((xd.ip.b11.toNat : Int)), .int .u8 ((xd.ip.b12.toNat : Int)), .int .u8 ((xd.ip.b13.toNat : Int)), .int .u8 ((xd.ip.b14.toNat : Int)), .int .u8 ((xd.ip.b15.toNat : Int)), .int .i64 (xd.port)] 68) (by kernel_rfl) (by kernel_rfl) ?_
  clear hF hO; intro b2 W2 a hO hF
  refine L_new hF hO (by kernel_rfl) (by kernel_rfl) (vf := fun b => .pointer (some ⟨b, 0, none⟩)) (ob := .cells #[.bool xa.six, .int .u8 ((xa.b0.toNat : Int)), .int .u8 ((xa.b1.toNat : Int)), .int .u8 ((xa.b2.toNat : Int)), .int .u8 ((xa.b3.toNat : Int)), .int .u8 ((xa.b4.toNat : Int)), .int .u8 ((xa.b5.toNat : Int)), .int .u8 ((xa.b6.toNat : Int)), .int .u8 ((xa.b7.toNat : Int)), .int .u8 ((xa.b8.toNat : Int)), .int .u8 ((xa.b9.toNat : Int)), .int .u8 ((xa.b10.toNat : Int)), .int .u8 ((xa.b11.toNat : Int)), .int .u8 ((xa.b12.toNat : Int)), .int .u8 ((xa.b13.toNat : Int)), .int .u8 ((xa.b14.toNat : Int)), .int .u8 ((xa.b15.toNat : Int))] 33) (by kernel_rfl) (by kernel_rfl) ?_
  clear hF hO; intro b3 W3 a hO hF
  refine Vp hF (.bool false) ?_; clear hF; intro a hF
  refine L_nil ?_
  refine hK1 _ _ ?_
  refine wp_seq_k fun K2 hK2 => ?_
  refine wp_seq_k fun K3 hK3 => ?_
  refine wp_region_lit ?_
  refine Lc hF (law03_alive I ea W3 (hG.own hO) (hE.own hO) h3 h0 h7) ?_
  clear hF; rintro _ W4 a ⟨rfl, hk⟩ hF
  replace hO := hO.call0 hk; clear hk
  refine Vp hF (.bool false) ?_; clear hF; intro a hF
  refine L_nil ?_
  refine hK3 _ _ ?_
  refine cond_f hF (by kernel_rfl) (by kernel_rfl) ?_
  refine wp_skip ?_
  refine hK2 _ _ ?_
  refine wp_seq_k fun K4 hK4 => ?_
  refine wp_seq_k fun K5 hK5 => ?_
  refine A_start (fun Wx => Own W noX [.blk b3 (.cells #[.bool xa.six, .int .u8 ((xa.b0.toNat : Int)), .int .u8 ((xa.b1.toNat : Int)), .int .u8 ((xa.b2.toNat : Int)), .int .u8 ((xa.b3.toNat : Int)), .int .u8 ((xa.b4.toNat : Int)), .int .u8 ((xa.b5.toNat : Int)), .int .u8 ((xa.b6.toNat : Int)), .int .u8 ((xa.b7.toNat : Int)), .int .u8 ((xa.b8.toNat : Int)), .int .u8 ((xa.b9.toNat : Int)), .int .u8 ((xa.b10.toNat : Int)), .int .u8 ((xa.b11.toNat : Int)), .int .u8 ((xa.b12.toNat : Int)), .int .u8 ((xa.b13.toNat : Int)), .int .u8 ((xa.b14.toNat : Int)), .int .u8 ((xa.b15.toNat : Int))] 33 (0, 0)), .blk b2 (.cells #[.bool xd.ip.six, .int .u8 ((xd.ip.b0.toNat : Int)), .int .u8 ((xd.ip.b1.toNat : Int)), .int .u8 ((xd.ip.b2.toNat : Int)), .int .u8 ((xd.ip.b3.toNat : Int)), .int .u8 ((xd.ip.b4.toNat : Int)), .int .u8 ((xd.ip.b5.toNat : Int)), .int .u8 ((xd.ip.b6.toNat : Int)), .int .u8 ((xd.ip.b7.toNat : Int)), .int .u8 ((xd.ip.b8.toNat : Int)), .int .u8 ((xd.ip.b9.toNat : Int)), .int .u8 ((xd.ip.b10.toNat : Int)), .int .u8 ((xd.ip.b11.toNat : Int)), .int .u8 ((xd.ip.b12.toNat : Int)), .int .u8 ((xd.ip.b13.toNat : Int)), .int .u8 ((xd.ip.b14.toNat : Int)), .int .u8 ((xd.ip.b15.toNat : Int)), .int .i64 (xd.port)] 68 (0, 0)), .blk b1 (.cells #[.bool xc.ip.six, .int .u8 ((xc.ip.b0.toNat : Int)), .int .u8 ((xc.ip.b1.toNat : Int)), .int .u8 ((xc.ip.b2.toNat : Int)), .int .u8 ((xc.ip.b3.toNat : Int)), .int .u8 ((xc.ip.b4.toNat : Int)), .int .u8 ((xc.ip.b5.toNat : Int)), .int .u8 ((xc.ip.b6.toNat : Int)), .int .u8 ((xc.ip.b7.toNat : Int)), .int .u8 ((xc.ip.b8.toNat : Int)), .int .u8 ((xc.ip.b9.toNat : Int)), .int .u8 ((xc.ip.b10.toNat : Int)), .int .u8 ((xc.ip.b11.toNat : Int)), .int .u8 ((xc.ip.b12.toNat : Int)), .int .u8 ((xc.ip.b13.toNat : Int)), .int .u8 ((xc.ip.b14.toNat : Int)), .int .u8 ((xc.ip.b15.toNat : Int)), .int .i64 (xc.port)] 68 (0, 0))] Wx) (by kernel_rfl) ?_
  replace hO := hO.drewN 1
  generalize hWd : ({ W4 with drawn := W4.drawn + 1 } : World) = W4_d at hO ⊢; clear hWd
  refine Tk 0 hF (.agg #[.bool xc.ip.six, .int .u8 ((xc.ip.b0.toNat : Int)), .int .u8 ((xc.ip.b1.toNat : Int)), .int .u8 ((xc.ip.b2.toNat : Int)), .int .u8 ((xc.ip.b3.toNat : Int)), .int .u8 ((xc.ip.b4.toNat : Int)), .int .u8 ((xc.ip.b5.toNat : Int)), .int .u8 ((xc.ip.b6.toNat : Int)), .int .u8 ((xc.ip.b7.toNat : Int)), .int .u8 ((xc.ip.b8.toNat : Int)), .int .u8 ((xc.ip.b9.toNat : Int)), .int .u8 ((xc.ip.b10.toNat : Int)), .int .u8 ((xc.ip.b11.toNat : Int)), .int .u8 ((xc.ip.b12.toNat : Int)), .int .u8 ((xc.ip.b13.toNat : Int)), .int .u8 ((xc.ip.b14.toNat : Int)), .int .u8 ((xc.ip.b15.toNat : Int)), .int .i64 (xc.port)]) (fun Wx hO => x_load (p := .pointer (some ⟨b1, 0, none⟩)) rfl (by kernel_rfl) (run_loadA (k := 18) (by kernel_rfl) (by kernel_rfl) (hO.blk (List.mem_cons_of_mem _ (List.mem_cons_of_mem _ List.mem_cons_self))) (by kernel_rfl) (by kernel_rfl))) (hO.sub (.cons_cons _ (.cons_cons _ (.cons_cons _ (List.nil_sublist _))))) ?_; clear hF; intro a hF
  refine Tk 1 hF (.agg #[.bool xa.six, .int .u8 ((xa.b0.toNat : Int)), .int .u8 ((xa.b1.toNat : Int)), .int .u8 ((xa.b2.toNat : Int)), .int .u8 ((xa.b3.toNat : Int)), .int .u8 ((xa.b4.toNat : Int)), .int .u8 ((xa.b5.toNat : Int)), .int .u8 ((xa.b6.toNat : Int)), .int .u8 ((xa.b7.toNat : Int)), .int .u8 ((xa.b8.toNat : Int)), .int .u8 ((xa.b9.toNat : Int)), .int .u8 ((xa.b10.toNat : Int)), .int .u8 ((xa.b11.toNat : Int)), .int .u8 ((xa.b12.toNat : Int)), .int .u8 ((xa.b13.toNat : Int)), .int .u8 ((xa.b14.toNat : Int)), .int .u8 ((xa.b15.toNat : Int))]) (fun Wx hO => x_load (p := .pointer (some ⟨b3, 0, none⟩)) rfl (by kernel_rfl) (run_loadA (k := 17) (by kernel_rfl) (by kernel_rfl) (hO.blk List.mem_cons_self) (by kernel_rfl) (by kernel_rfl))) (hO.sub (.cons_cons _ (.cons_cons _ (.cons_cons _ (List.nil_sublist _))))) ?_; clear hF; intro a hF
  refine Tk 3 hF (.agg #[.bool xc.ip.six, .int .u8 ((xc.ip.b0.toNat : Int)), .int .u8 ((xc.ip.b1.toNat : Int)), .int .u8 ((xc.ip.b2.toNat : Int)), .int .u8 ((xc.ip.b3.toNat : Int)), .int .u8 ((xc.ip.b4.toNat : Int)), .int .u8 ((xc.ip.b5.toNat : Int)), .int .u8 ((xc.ip.b6.toNat : Int)), .int .u8 ((xc.ip.b7.toNat : Int)), .int .u8 ((xc.ip.b8.toNat : Int)), .int .u8 ((xc.ip.b9.toNat : Int)), .int .u8 ((xc.ip.b10.toNat : Int)), .int .u8 ((xc.ip.b11.toNat : Int)), .int .u8 ((xc.ip.b12.toNat : Int)), .int .u8 ((xc.ip.b13.toNat : Int)), .int .u8 ((xc.ip.b14.toNat : Int)), .int .u8 ((xc.ip.b15.toNat : Int)), .int .i64 (xc.port)]) (fun Wx hO => x_load (p := .pointer (some ⟨b1, 0, none⟩)) rfl (by kernel_rfl) (run_loadA (k := 18) (by kernel_rfl) (by kernel_rfl) (hO.blk (List.mem_cons_of_mem _ (List.mem_cons_of_mem _ List.mem_cons_self))) (by kernel_rfl) (by kernel_rfl))) (hO.sub (.cons_cons _ (.cons_cons _ (.cons_cons _ (List.nil_sublist _))))) ?_; clear hF; intro a hF
  refine Tk 4 hF (.agg #[.bool xa.six, .int .u8 ((xa.b0.toNat : Int)), .int .u8 ((xa.b1.toNat : Int)), .int .u8 ((xa.b2.toNat : Int)), .int .u8 ((xa.b3.toNat : Int)), .int .u8 ((xa.b4.toNat : Int)), .int .u8 ((xa.b5.toNat : Int)), .int .u8 ((xa.b6.toNat : Int)), .int .u8 ((xa.b7.toNat : Int)), .int .u8 ((xa.b8.toNat : Int)), .int .u8 ((xa.b9.toNat : Int)), .int .u8 ((xa.b10.toNat : Int)), .int .u8 ((xa.b11.toNat : Int)), .int .u8 ((xa.b12.toNat : Int)), .int .u8 ((xa.b13.toNat : Int)), .int .u8 ((xa.b14.toNat : Int)), .int .u8 ((xa.b15.toNat : Int))]) (fun Wx hO => x_load (p := .pointer (some ⟨b3, 0, none⟩)) rfl (by kernel_rfl) (run_loadA (k := 17) (by kernel_rfl) (by kernel_rfl) (hO.blk List.mem_cons_self) (by kernel_rfl) (by kernel_rfl))) (hO.sub (.cons_cons _ (.cons_cons _ (.cons_cons _ (List.nil_sublist _))))) ?_; clear hF; intro a hF
  refine A_one (i := 2) (listed' := #[true, true, true, true, true, false, false, false, false, false, false, false, false, false, false, false, false, false, false, false, false, false, false, false, false]) (by kernel_rfl) rfl (by kernel_rfl) ?_
  refine OpK.lc hF (cidr_Contains xc xa W4_d) ?_
  clear hF; rintro _ W5 a ⟨rfl, hk⟩ hF
  replace hO := hO.call0 hk; clear hk
  refine ⟨hO.sub (.cons_cons _ (.cons_cons _ (.cons_cons _ (List.nil_sublist _)))), ?_⟩
  refine A_one (i := 5) (listed' := #[true, true, true, true, true, true, false, false, false, false, false, false, false, false, false, false, false, false, false, false, false, false, false, false, false]) (by kernel_rfl) rfl (by kernel_rfl) ?_
  refine OpK.lc hF (ref03_Contains xc xa W5) ?_
  clear hF; rintro _ W6 a ⟨rfl, hk⟩ hF
  replace hO := hO.call0 hk; clear hk
  refine ⟨hO.sub (.cons_cons _ (.cons_cons _ (.cons_cons _ (List.nil_sublist _)))), ?_⟩
  refine Tk 6 hF (.bool false) (fun Wx _ => (x_bool (x := !((contCd xc xa) == (contCd xc xa))) (notF (beq_self_eq_true _)) (by kernel_rfl))) (hO.sub (.cons_cons _ (.cons_cons _ (.cons_cons _ (List.nil_sublist _))))) ?_; clear hF; intro a hF
  refine Tk 7 hF (.bool false) (fun Wx _ => by kernel_rfl) (hO.sub (.cons_cons _ (.cons_cons _ (.cons_cons _ (List.nil_sublist _))))) ?_; clear hF; intro a hF
  refine Tk 8 hF (.agg #[.bool xc.ip.six, .int .u8 ((xc.ip.b0.toNat : Int)), .int .u8 ((xc.ip.b1.toNat : Int)), .int .u8 ((xc.ip.b2.toNat : Int)), .int .u8 ((xc.ip.b3.toNat : Int)), .int .u8 ((xc.ip.b4.toNat : Int)), .int .u8 ((xc.ip.b5.toNat : Int)), .int .u8 ((xc.ip.b6.toNat : Int)), .int .u8 ((xc.ip.b7.toNat : Int)), .int .u8 ((xc.ip.b8.toNat : Int)), .int .u8 ((xc.ip.b9.toNat : Int)), .int .u8 ((xc.ip.b10.toNat : Int)), .int .u8 ((xc.ip.b11.toNat : Int)), .int .u8 ((xc.ip.b12.toNat : Int)), .int .u8 ((xc.ip.b13.toNat : Int)), .int .u8 ((xc.ip.b14.toNat : Int)), .int .u8 ((xc.ip.b15.toNat : Int)), .int .i64 (xc.port)]) (fun Wx hO => x_load (p := .pointer (some ⟨b1, 0, none⟩)) rfl (by kernel_rfl) (run_loadA (k := 18) (by kernel_rfl) (by kernel_rfl) (hO.blk (List.mem_cons_of_mem _ (List.mem_cons_of_mem _ List.mem_cons_self))) (by kernel_rfl) (by kernel_rfl))) (hO.sub (.cons_cons _ (.cons_cons _ (.cons_cons _ (List.nil_sublist _))))) ?_; clear hF; intro a hF
  refine Tk 9 hF (.agg #[.bool xd.ip.six, .int .u8 ((xd.ip.b0.toNat : Int)), .int .u8 ((xd.ip.b1.toNat : Int)), .int .u8 ((xd.ip.b2.toNat : Int)), .int .u8 ((xd.ip.b3.toNat : Int)), .int .u8 ((xd.ip.b4.toNat : Int)), .int .u8 ((xd.ip.b5.toNat : Int)), .int .u8 ((xd.ip.b6.toNat : Int)), .int .u8 ((xd.ip.b7.toNat : Int)), .int .u8 ((xd.ip.b8.toNat : Int)), .int .u8 ((xd.ip.b9.toNat : Int)), .int .u8 ((xd.ip.b10.toNat : Int)), .int .u8 ((xd.ip.b11.toNat : Int)), .int .u8 ((xd.ip.b12.toNat : Int)), .int .u8 ((xd.ip.b13.toNat : Int)), .int .u8 ((xd.ip.b14.toNat : Int)), .int .u8 ((xd.ip.b15.toNat : Int)), .int .i64 (xd.port)]) (fun Wx hO => x_load (p := .pointer (some ⟨b2, 0, none⟩)) rfl (by kernel_rfl) (run_loadA (k := 18) (by kernel_rfl) (by kernel_rfl) (hO.blk (List.mem_cons_of_mem _ List.mem_cons_self)) (by kernel_rfl) (by kernel_rfl))) (hO.sub (.cons_cons _ (.cons_cons _ (.cons_cons _ (List.nil_sublist _))))) ?_; clear hF; intro a hF
  refine Tk 11 hF (.agg #[.bool xc.ip.six, .int .u8 ((xc.ip.b0.toNat : Int)), .int .u8 ((xc.ip.b1.toNat : Int)), .int .u8 ((xc.ip.b2.toNat : Int)), .int .u8 ((xc.ip.b3.toNat : Int)), .int .u8 ((xc.ip.b4.toNat : Int)), .int .u8 ((xc.ip.b5.toNat : Int)), .int .u8 ((xc.ip.b6.toNat : Int)), .int .u8 ((xc.ip.b7.toNat : Int)), .int .u8 ((xc.ip.b8.toNat : Int)), .int .u8 ((xc.ip.b9.toNat : Int)), .int .u8 ((xc.ip.b10.toNat : Int)), .int .u8 ((xc.ip.b11.toNat : Int)), .int .u8 ((xc.ip.b12.toNat : Int)), .int .u8 ((xc.ip.b13.toNat : Int)), .int .u8 ((xc.ip.b14.toNat : Int)), .int .u8 ((xc.ip.b15.toNat : Int)), .int .i64 (xc.port)]) (fun Wx hO => x_load (p := .pointer (some ⟨b1, 0, none⟩)) rfl (by kernel_rfl) (run_loadA (k := 18) (by kernel_rfl) (by kernel_rfl) (hO.blk (List.mem_cons_of_mem _ (List.mem_cons_of_mem _ List.mem_cons_self))) (by kernel_rfl) (by kernel_rfl))) (hO.sub (.cons_cons _ (.cons_cons _ (.cons_cons _ (List.nil_sublist _))))) ?_; clear hF; intro a hF
  refine Tk 12 hF (.agg #[.bool xd.ip.six, .int .u8 ((xd.ip.b0.toNat : Int)), .int .u8 ((xd.ip.b1.toNat : Int)), .int .u8 ((xd.ip.b2.toNat : Int)), .int .u8 ((xd.ip.b3.toNat : Int)), .int .u8 ((xd.ip.b4.toNat : Int)), .int .u8 ((xd.ip.b5.toNat : Int)), .int .u8 ((xd.ip.b6.toNat : Int)), .int .u8 ((xd.ip.b7.toNat : Int)), .int .u8 ((xd.ip.b8.toNat : Int)), .int .u8 ((xd.ip.b9.toNat : Int)), .int .u8 ((xd.ip.b10.toNat : Int)), .int .u8 ((xd.ip.b11.toNat : Int)), .int .u8 ((xd.ip.b12.toNat : Int)), .int .u8 ((xd.ip.b13.toNat : Int)), .int .u8 ((xd.ip.b14.toNat : Int)), .int .u8 ((xd.ip.b15.toNat : Int)), .int .i64 (xd.port)]) (fun Wx hO => x_load (p := .pointer (some ⟨b2, 0, none⟩)) rfl (by kernel_rfl) (run_loadA (k := 18) (by kernel_rfl) (by kernel_rfl) (hO.blk (List.mem_cons_of_mem _ List.mem_cons_self)) (by kernel_rfl) (by kernel_rfl))) (hO.sub (.cons_cons _ (.cons_cons _ (.cons_cons _ (List.nil_sublist _))))) ?_; clear hF; intro a hF
  refine A_one (i := 10) (listed' := #[true, true, true, true, true, true, true, true, true, true, true, true, true, false, false, false, false, false, false, false, false, false, false, false, false]) (by kernel_rfl) rfl (by kernel_rfl) ?_
  refine OpK.lc hF (cidr_Covers xc xd W6) ?_
  clear hF; rintro _ W7 a ⟨rfl, hk⟩ hF
  replace hO := hO.call0 hk; clear hk
  refine ⟨hO.sub (.cons_cons _ (.cons_cons _ (.cons_cons _ (List.nil_sublist _)))), ?_⟩
  refine A_one (i := 13) (listed' := #[true, true, true, true, true, true, true, true, true, true, true, true, true, true, false, false, false, false, false, false, false, false, false, false, false]) (by kernel_rfl) rfl (by kernel_rfl) ?_
  refine OpK.lc hF (ref03_Covers xc xd W7) ?_
  clear hF; rintro _ W8 a ⟨rfl, hk⟩ hF
  replace hO := hO.call0 hk; clear hk
  refine ⟨hO.sub (.cons_cons _ (.cons_cons _ (.cons_cons _ (List.nil_sublist _)))), ?_⟩
  refine Tk 14 hF (.bool false) (fun Wx _ => (x_bool (x := !((covCd xc xd) == (covCd xc xd))) (notF (beq_self_eq_true _)) (by kernel_rfl))) (hO.sub (.cons_cons _ (.cons_cons _ (.cons_cons _ (List.nil_sublist _))))) ?_; clear hF; intro a hF
  refine Tk 15 hF (.bool false) (fun Wx _ => by kernel_rfl) (hO.sub (.cons_cons _ (.cons_cons _ (.cons_cons _ (List.nil_sublist _))))) ?_; clear hF; intro a hF
  refine Tk 16 hF (.bool false) (fun Wx _ => by kernel_rfl) (hO.sub (.cons_cons _ (.cons_cons _ (.cons_cons _ (List.nil_sublist _))))) ?_; clear hF; intro a hF
  refine Tk 17 hF (.agg #[.bool xc.ip.six, .int .u8 ((xc.ip.b0.toNat : Int)), .int .u8 ((xc.ip.b1.toNat : Int)), .int .u8 ((xc.ip.b2.toNat : Int)), .int .u8 ((xc.ip.b3.toNat : Int)), .int .u8 ((xc.ip.b4.toNat : Int)), .int .u8 ((xc.ip.b5.toNat : Int)), .int .u8 ((xc.ip.b6.toNat : Int)), .int .u8 ((xc.ip.b7.toNat : Int)), .int .u8 ((xc.ip.b8.toNat : Int)), .int .u8 ((xc.ip.b9.toNat : Int)), .int .u8 ((xc.ip.b10.toNat : Int)), .int .u8 ((xc.ip.b11.toNat : Int)), .int .u8 ((xc.ip.b12.toNat : Int)), .int .u8 ((xc.ip.b13.toNat : Int)), .int .u8 ((xc.ip.b14.toNat : Int)), .int .u8 ((xc.ip.b15.toNat : Int)), .int .i64 (xc.port)]) (fun Wx hO => x_load (p := .pointer (some ⟨b1, 0, none⟩)) rfl (by kernel_rfl) (run_loadA (k := 18) (by kernel_rfl) (by kernel_rfl) (hO.blk (List.mem_cons_of_mem _ (List.mem_cons_of_mem _ List.mem_cons_self))) (by kernel_rfl) (by kernel_rfl))) (hO.sub (.cons_cons _ (.cons_cons _ (.cons_cons _ (List.nil_sublist _))))) ?_; clear hF; intro a hF
  refine Tk 18 hF (.agg #[.bool xd.ip.six, .int .u8 ((xd.ip.b0.toNat : Int)), .int .u8 ((xd.ip.b1.toNat : Int)), .int .u8 ((xd.ip.b2.toNat : Int)), .int .u8 ((xd.ip.b3.toNat : Int)), .int .u8 ((xd.ip.b4.toNat : Int)), .int .u8 ((xd.ip.b5.toNat : Int)), .int .u8 ((xd.ip.b6.toNat : Int)), .int .u8 ((xd.ip.b7.toNat : Int)), .int .u8 ((xd.ip.b8.toNat : Int)), .int .u8 ((xd.ip.b9.toNat : Int)), .int .u8 ((xd.ip.b10.toNat : Int)), .int .u8 ((xd.ip.b11.toNat : Int)), .int .u8 ((xd.ip.b12.toNat : Int)), .int .u8 ((xd.ip.b13.toNat : Int)), .int .u8 ((xd.ip.b14.toNat : Int)), .int .u8 ((xd.ip.b15.toNat : Int)), .int .i64 (xd.port)]) (fun Wx hO => x_load (p := .pointer (some ⟨b2, 0, none⟩)) rfl (by kernel_rfl) (run_loadA (k := 18) (by kernel_rfl) (by kernel_rfl) (hO.blk (List.mem_cons_of_mem _ List.mem_cons_self)) (by kernel_rfl) (by kernel_rfl))) (hO.sub (.cons_cons _ (.cons_cons _ (.cons_cons _ (List.nil_sublist _))))) ?_; clear hF; intro a hF
  refine Tk 20 hF (.agg #[.bool xc.ip.six, .int .u8 ((xc.ip.b0.toNat : Int)), .int .u8 ((xc.ip.b1.toNat : Int)), .int .u8 ((xc.ip.b2.toNat : Int)), .int .u8 ((xc.ip.b3.toNat : Int)), .int .u8 ((xc.ip.b4.toNat : Int)), .int .u8 ((xc.ip.b5.toNat : Int)), .int .u8 ((xc.ip.b6.toNat : Int)), .int .u8 ((xc.ip.b7.toNat : Int)), .int .u8 ((xc.ip.b8.toNat : Int)), .int .u8 ((xc.ip.b9.toNat : Int)), .int .u8 ((xc.ip.b10.toNat : Int)), .int .u8 ((xc.ip.b11.toNat : Int)), .int .u8 ((xc.ip.b12.toNat : Int)), .int .u8 ((xc.ip.b13.toNat : Int)), .int .u8 ((xc.ip.b14.toNat : Int)), .int .u8 ((xc.ip.b15.toNat : Int)), .int .i64 (xc.port)]) (fun Wx hO => x_load (p := .pointer (some ⟨b1, 0, none⟩)) rfl (by kernel_rfl) (run_loadA (k := 18) (by kernel_rfl) (by kernel_rfl) (hO.blk (List.mem_cons_of_mem _ (List.mem_cons_of_mem _ List.mem_cons_self))) (by kernel_rfl) (by kernel_rfl))) (hO.sub (.cons_cons _ (.cons_cons _ (.cons_cons _ (List.nil_sublist _))))) ?_; clear hF; intro a hF
  refine Tk 21 hF (.agg #[.bool xd.ip.six, .int .u8 ((xd.ip.b0.toNat : Int)), .int .u8 ((xd.ip.b1.toNat : Int)), .int .u8 ((xd.ip.b2.toNat : Int)), .int .u8 ((xd.ip.b3.toNat : Int)), .int .u8 ((xd.ip.b4.toNat : Int)), .int .u8 ((xd.ip.b5.toNat : Int)), .int .u8 ((xd.ip.b6.toNat : Int)), .int .u8 ((xd.ip.b7.toNat : Int)), .int .u8 ((xd.ip.b8.toNat : Int)), .int .u8 ((xd.ip.b9.toNat : Int)), .int .u8 ((xd.ip.b10.toNat : Int)), .int .u8 ((xd.ip.b11.toNat : Int)), .int .u8 ((xd.ip.b12.toNat : Int)), .int .u8 ((xd.ip.b13.toNat : Int)), .int .u8 ((xd.ip.b14.toNat : Int)), .int .u8 ((xd.ip.b15.toNat : Int)), .int .i64 (xd.port)]) (fun Wx hO => x_load (p := .pointer (some ⟨b2, 0, none⟩)) rfl (by kernel_rfl) (run_loadA (k := 18) (by kernel_rfl) (by kernel_rfl) (hO.blk (List.mem_cons_of_mem _ List.mem_cons_self)) (by kernel_rfl) (by kernel_rfl))) (hO.sub (.cons_cons _ (.cons_cons _ (.cons_cons _ (List.nil_sublist _))))) ?_; clear hF; intro a hF
  refine A_one (i := 19) (listed' := #[true, true, true, true, true, true, true, true, true, true, true, true, true, true, true, true, true, true, true, true, true, true, false, false, false]) (by kernel_rfl) rfl (by kernel_rfl) ?_
  refine OpK.lc hF (cidr_Compare xc xd W8) ?_
  clear hF; rintro _ W9 a ⟨rfl, hk⟩ hF
  replace hO := hO.call0 hk; clear hk
  refine ⟨hO.sub (.cons_cons _ (.cons_cons _ (.cons_cons _ (List.nil_sublist _)))), ?_⟩
  refine A_one (i := 22) (listed' := #[true, true, true, true, true, true, true, true, true, true, true, true, true, true, true, true, true, true, true, true, true, true, true, false, false]) (by kernel_rfl) rfl (by kernel_rfl) ?_
  refine OpK.lc hF (ref03_Compare xc xd W9) ?_
  clear hF; rintro _ W10 a ⟨rfl, hk⟩ hF
  replace hO := hO.call0 hk; clear hk
  refine ⟨hO.sub (.cons_cons _ (.cons_cons _ (.cons_cons _ (List.nil_sublist _)))), ?_⟩
  refine Tk 23 hF (.bool false) (fun Wx _ => (x_bool (x := !((cmpCd xc xd) == (cmpCd xc xd))) (notF (beq_self_eq_true _)) (by kernel_rfl))) (hO.sub (.cons_cons _ (.cons_cons _ (.cons_cons _ (List.nil_sublist _))))) ?_; clear hF; intro a hF
  refine Tk 24 hF (.bool false) (fun Wx _ => by kernel_rfl) (hO.sub (.cons_cons _ (.cons_cons _ (.cons_cons _ (List.nil_sublist _))))) ?_; clear hF; intro a hF
  refine A_done (by kernel_rfl) ?_
  refine hK5 _ _ ?_
  refine cond_f hF (by kernel_rfl) (by kernel_rfl) ?_
  refine wp_skip ?_
  refine hK4 _ _ ?_
  refine wp_seq_k fun K6 hK6 => ?_
  refine wp_region_lit ?_
  refine Vr hF (.agg #[.bool xa.six, .int .u8 ((xa.b0.toNat : Int)), .int .u8 ((xa.b1.toNat : Int)), .int .u8 ((xa.b2.toNat : Int)), .int .u8 ((xa.b3.toNat : Int)), .int .u8 ((xa.b4.toNat : Int)), .int .u8 ((xa.b5.toNat : Int)), .int .u8 ((xa.b6.toNat : Int)), .int .u8 ((xa.b7.toNat : Int)), .int .u8 ((xa.b8.toNat : Int)), .int .u8 ((xa.b9.toNat : Int)), .int .u8 ((xa.b10.toNat : Int)), .int .u8 ((xa.b11.toNat : Int)), .int .u8 ((xa.b12.toNat : Int)), .int .u8 ((xa.b13.toNat : Int)), .int .u8 ((xa.b14.toNat : Int)), .int .u8 ((xa.b15.toNat : Int))]) (x_load (p := .pointer (some ⟨b3, 0, none⟩)) rfl (by kernel_rfl) (run_loadA (k := 17) (by kernel_rfl) (by kernel_rfl) (hO.blk List.mem_cons_self) (by kernel_rfl) (by kernel_rfl))) ?_; clear hF; intro a hF
  refine Vp hF (.pointer (some ⟨b1, 17, none⟩)) ?_; clear hF; intro a hF
  refine Vr hF (.int .i64 (xc.port)) (x_load (p := .pointer (some ⟨b1, 17, none⟩)) rfl (by kernel_rfl) (run_load1 (by kernel_rfl) ((hO.cell (List.mem_cons_of_mem _ (List.mem_cons_of_mem _ List.mem_cons_self))).trans (by kernel_rfl)))) ?_; clear hF; intro a hF
  refine Lc hF ((cidr_Of I ea xa xc.port W10 (hG.own hO) (hE.own hO) h3 h0 h7).mono fun v W' h => (⟨by rw [h.1]; unfold ofCd; rw [if_neg (by rw [hr]; simp)]; rfl, h.2⟩ : v = .tuple #[ptV noPt, errV ea 7] ∧ Own W10 noX [] W')) ?_
  clear hF; rintro _ W11 a ⟨rfl, hk⟩ hF
  replace hO := hO.call0 hk; clear hk
  refine Vp hF (.tuple #[ptV noPt, errV ea 7]) ?_; clear hF; intro a hF
  refine Vp hF (ptV noPt) ?_; clear hF; intro a hF
  refine Vp hF (errV ea 7) ?_; clear hF; intro a hF
  refine L_new hF hO (by kernel_rfl) (by kernel_rfl) (vf := fun b => .pointer (some ⟨b, 0, none⟩)) (ob := .cells #[.bool false, .int .u8 0, .int .u8 0, .int .u8 0, .int .u8 0, .int .u8 0, .int .u8 0, .int .u8 0, .int .u8 0, .int .u8 0, .int .u8 0, .int .u8 0, .int .u8 0, .int .u8 0, .int .u8 0, .int .u8 0, .int .u8 0, .int .i64 0] 68) (by kernel_rfl) (by kernel_rfl) ?_
  clear hF hO; intro b4 W12 a hO hF
  obtain ⟨W13, hst, hO1⟩ := run_storeAt (P := Tryz.prog) (k := 18) (T := 68) (off := 0) (v := ptV noPt) (cs := #[.bool false, .int .u8 0, .int .u8 0, .int .u8 0, .int .u8 0, .int .u8 0, .int .u8 0, .int .u8 0, .int .u8 0, .int .u8 0, .int .u8 0, .int .u8 0, .int .u8 0, .int .u8 0, .int .u8 0, .int .u8 0, .int .u8 0, .int .i64 0]) (cs' := #[.bool noPt.ip.six, .int .u8 ((noPt.ip.b0.toNat : Int)), .int .u8 ((noPt.ip.b1.toNat : Int)), .int .u8 ((noPt.ip.b2.toNat : Int)), .int .u8 ((noPt.ip.b3.toNat : Int)), .int .u8 ((noPt.ip.b4.toNat : Int)), .int .u8 ((noPt.ip.b5.toNat : Int)), .int .u8 ((noPt.ip.b6.toNat : Int)), .int .u8 ((noPt.ip.b7.toNat : Int)), .int .u8 ((noPt.ip.b8.toNat : Int)), .int .u8 ((noPt.ip.b9.toNat : Int)), .int .u8 ((noPt.ip.b10.toNat : Int)), .int .u8 ((noPt.ip.b11.toNat : Int)), .int .u8 ((noPt.ip.b12.toNat : Int)), .int .u8 ((noPt.ip.b13.toNat : Int)), .int .u8 ((noPt.ip.b14.toNat : Int)), .int .u8 ((noPt.ip.b15.toNat : Int)), .int .i64 (noPt.port)]) hO (by kernel_rfl) (by kernel_rfl) (by kernel_rfl) (Nat.le_of_ble_eq_true (by kernel_rfl)) (by kernel_rfl) (.head _)
  refine L_skip hF (by kernel_rfl) (by kernel_rfl) (x_store (p := .pointer (some ⟨b4, 0, none⟩)) (v := ptV noPt) rfl (by kernel_rfl) (by kernel_rfl) hst) (by kernel_rfl) ?_
  clear hst hF; intro a hF; replace hO := hO1; clear hO1
  refine Vp hF (errV ea 7) ?_; clear hF; intro a hF
  refine L_nil ?_
  refine hK6 _ _ ?_
  refine wp_seq_k fun K7 hK7 => ?_
  refine wp_seq_k fun K8 hK8 => ?_
  refine wp_region_lit ?_
  refine Vr hF (.agg #[.bool xa.six, .int .u8 ((xa.b0.toNat : Int)), .int .u8 ((xa.b1.toNat : Int)), .int .u8 ((xa.b2.toNat : Int)), .int .u8 ((xa.b3.toNat : Int)), .int .u8 ((xa.b4.toNat : Int)), .int .u8 ((xa.b5.toNat : Int)), .int .u8 ((xa.b6.toNat : Int)), .int .u8 ((xa.b7.toNat : Int)), .int .u8 ((xa.b8.toNat : Int)), .int .u8 ((xa.b9.toNat : Int)), .int .u8 ((xa.b10.toNat : Int)), .int .u8 ((xa.b11.toNat : Int)), .int .u8 ((xa.b12.toNat : Int)), .int .u8 ((xa.b13.toNat : Int)), .int .u8 ((xa.b14.toNat : Int)), .int .u8 ((xa.b15.toNat : Int))]) (x_load (p := .pointer (some ⟨b3, 0, none⟩)) rfl (by kernel_rfl) (run_loadA (k := 17) (by kernel_rfl) (by kernel_rfl) (hO.blk (List.mem_cons_of_mem _ List.mem_cons_self)) (by kernel_rfl) (by kernel_rfl))) ?_; clear hF; intro a hF
  refine Lc hF (ref02_Right xa W13) ?_
  clear hF; rintro _ W14 a ⟨rfl, hk⟩ hF
  replace hO := hO.call0 hk; clear hk
  refine Vp hF (.bool (!(rightIp xa))) ?_; clear hF; intro a hF
  refine L_nil ?_
  refine hK8 _ _ ?_
  replace hF := hF.know (d := 45) (v' := .bool true) (by kernel_rfl) (congrArg Value.bool (notT hr))
  refine cond_t hF (by kernel_rfl) (by kernel_rfl) ?_
  refine wp_seq_k fun K9 hK9 => ?_
  refine wp_region_lit ?_
  refine Vr hF (.agg #[.bool noPt.ip.six, .int .u8 ((noPt.ip.b0.toNat : Int)), .int .u8 ((noPt.ip.b1.toNat : Int)), .int .u8 ((noPt.ip.b2.toNat : Int)), .int .u8 ((noPt.ip.b3.toNat : Int)), .int .u8 ((noPt.ip.b4.toNat : Int)), .int .u8 ((noPt.ip.b5.toNat : Int)), .int .u8 ((noPt.ip.b6.toNat : Int)), .int .u8 ((noPt.ip.b7.toNat : Int)), .int .u8 ((noPt.ip.b8.toNat : Int)), .int .u8 ((noPt.ip.b9.toNat : Int)), .int .u8 ((noPt.ip.b10.toNat : Int)), .int .u8 ((noPt.ip.b11.toNat : Int)), .int .u8 ((noPt.ip.b12.toNat : Int)), .int .u8 ((noPt.ip.b13.toNat : Int)), .int .u8 ((noPt.ip.b14.toNat : Int)), .int .u8 ((noPt.ip.b15.toNat : Int)), .int .i64 (noPt.port)]) (x_load (p := .pointer (some ⟨b4, 0, none⟩)) rfl (by kernel_rfl) (run_loadA (k := 18) (by kernel_rfl) (by kernel_rfl) (hO.blk List.mem_cons_self) (by kernel_rfl) (by kernel_rfl))) ?_; clear hF; intro a hF
  refine Vp hF (.agg #[.bool false, .int .u8 0, .int .u8 0, .int .u8 0, .int .u8 0, .int .u8 0, .int .u8 0, .int .u8 0, .int .u8 0, .int .u8 0, .int .u8 0, .int .u8 0, .int .u8 0, .int .u8 0, .int .u8 0, .int .u8 0, .int .u8 0, .int .i64 0]) ?_; clear hF; intro a hF
  refine Vr hF (.bool true) (x_bool (x := decide (noPt = noPt)) (decide_eq_true rfl) (x_eqCd (a := noPt) (b := noPt) rfl (by kernel_rfl) (by kernel_rfl))) ?_; clear hF; intro a hF
  refine Vp hF (.bool true) ?_; clear hF; intro a hF
  refine Vp hF (errV ea 7) ?_; clear hF; intro a hF
  refine Lc hF (num_err ea 7 W14 (hI ▸ hE.own hO) (by decide)) ?_
  clear hF; rintro _ W15 a ⟨rfl, hk⟩ hF
  replace hO := hO.call0 hk; clear hk
  refine Vp hF (.bool true) ?_; clear hF; intro a hF
  refine Vp hF (.bool true) ?_; clear hF; intro a hF
  refine Vp hF (.bool true) ?_; clear hF; intro a hF
  refine L_nil ?_
  refine hK9 _ _ ?_
  refine wp_ret ?_
  refine then_ret ?_
  -- way 1: ¬ rightIp xa
  refine ret1 hF (v := .bool true) rfl (resT (by kernel_rfl)) (by refine ⟨?_, hO.nil⟩; first | rfl | (exfalso; omega) | exact congrArg Value.bool (cont_of hr hf) | (exfalso; have hc := cont_of hr hf; have hq : contCd ⟨cutIp xa xc.port, xc.port⟩ xa = false := (by assumption); rw [hc] at hq; cases hq)) .ret (.inl rfl)

set_option maxRecDepth 20000 in
theorem law03_CidrContains1 (I : List Nat) (ea : Nat → Addr) (xc xd : Pt) (xa : Ip) (W : World) (hG : LibW W) (hE : Errs I ea W) (h3 : I.contains 3 = true) (h0 : I.contains 0 = true) (h7 : I.contains 7 = true) (hI : I = errIs) (hr : rightIp xa = true) (hf : fitsIp xa xc.port = false) : Ret Tryz.prog 10 #[ptV xc, ptV xd, ipV xa] W fun v W' => v = .bool true ∧ Own W noX [] W' := by
  have hw := width_le xa
  have hn := fits_not hf
  refine enter Tryz.func10 rfl (n := 90) rfl (by kernel_rfl) (E0 := [(2, ipV xa), (1, ptV xd), (0, ptV xc)]) (by kernel_rfl) ?_
  intro a hF; have hO := Own.start W noX
  refine wp_seq_k fun K1 hK1 => ?_
  refine wp_region_lit ?_
  refine L_new hF hO (by kernel_rfl) (by kernel_rfl) (vf := fun b => .pointer (some ⟨b, 0, none⟩)) (ob := .cells #[.bool xc.ip.six, .int .u8 ((xc.ip.b0.toNat : Int)), .int .u8 ((xc.ip.b1.toNat : Int)), .int .u8 ((xc.ip.b2.toNat : Int)), .int .u8 ((xc.ip.b3.toNat : Int)), .int .u8 ((xc.ip.b4.toNat : Int)), .int .u8 ((xc.ip.b5.toNat : Int)), .int .u8 ((xc.ip.b6.toNat : Int)), .int .u8 ((xc.ip.b7.toNat : Int)), .int .u8 ((xc.ip.b8.toNat : Int)), .int .u8 ((xc.ip.b9.toNat : Int)), .int .u8 ((xc.ip.b10.toNat : Int)), .int .u8 ((xc.ip.b11.toNat : Int)), .int .u8 ((xc.ip.b12.toNat : Int)), .int .u8 ((xc.ip.b13.toNat : Int)), .int .u8 ((xc.ip.b14.toNat : Int)), .int .u8 ((xc.ip.b15.toNat : Int)), .int .i64 (xc.port)] 68) (by kernel_rfl) (by kernel_rfl) ?_
  clear hF hO; intro b1 W1 a hO hF
  refine L_new hF hO (by kernel_rfl) (by kernel_rfl) (vf := fun b => .pointer (some ⟨b, 0, none⟩)) (ob := .cells #[.bool xd.ip.six, .int .u8 ((xd.ip.b0.toNat : Int)), .int .u8 ((xd.ip.b1.toNat : Int)), .int .u8 ((xd.ip.b2.toNat : Int)), .int .u8 ((xd.ip.b3.toNat : Int)), .int .u8 ((xd.ip.b4.toNat : Int)), .int .u8 ((xd.ip.b5.toNat : Int)), .int .u8 ((xd.ip.b6.toNat : Int)), .int .u8 ((xd.ip.b7.toNat : Int)), .int .u8 ((xd.ip.b8.toNat : Int)), .int .u8 ((xd.ip.b9.toNat : Int)), .int .u8 ((xd.ip.b10.toNat : Int)), .int .u8 ((xd.ip.b11.toNat : Int)), .int .u8 ((xd.ip.b12.toNat : Int)), .int .u8 ((xd.ip.b13.toNat : Int)), .int .u8 ((xd.ip.b14.toNat : Int)), .int .u8 ((xd.ip.b15.toNat : Int)), .int .i64 (xd.port)] 68) (by kernel_rfl) (by kernel_rfl) ?_
  clear hF hO; intro b2 W2 a hO hF
  refine L_new hF hO (by kernel_rfl) (by kernel_rfl) (vf := fun b => .pointer (some ⟨b, 0, none⟩)) (ob := .cells #[.bool xa.six, .int .u8 ((xa.b0.toNat : Int)), .int .u8 ((xa.b1.toNat : Int)), .int .u8 ((xa.b2.toNat : Int)), .int .u8 ((xa.b3.toNat : Int)), .int .u8 ((xa.b4.toNat : Int)), .int .u8 ((xa.b5.toNat : Int)), .int .u8 ((xa.b6.toNat : Int)), .int .u8 ((xa.b7.toNat : Int)), .int .u8 ((xa.b8.toNat : Int)), .int .u8 ((xa.b9.toNat : Int)), .int .u8 ((xa.b10.toNat : Int)), .int .u8 ((xa.b11.toNat : Int)), .int .u8 ((xa.b12.toNat : Int)), .int .u8 ((xa.b13.toNat : Int)), .int .u8 ((xa.b14.toNat : Int)), .int .u8 ((xa.b15.toNat : Int))] 33) (by kernel_rfl) (by kernel_rfl) ?_
  clear hF hO; intro b3 W3 a hO hF
  refine Vp hF (.bool false) ?_; clear hF; intro a hF
  refine L_nil ?_
  refine hK1 _ _ ?_
  refine wp_seq_k fun K2 hK2 => ?_
  refine wp_seq_k fun K3 hK3 => ?_
  refine wp_region_lit ?_
  refine Lc hF (law03_alive I ea W3 (hG.own hO) (hE.own hO) h3 h0 h7) ?_
  clear hF; rintro _ W4 a ⟨rfl, hk⟩ hF
  replace hO := hO.call0 hk; clear hk
  refine Vp hF (.bool false) ?_; clear hF; intro a hF
  refine L_nil ?_
  refine hK3 _ _ ?_
  refine cond_f hF (by kernel_rfl) (by kernel_rfl) ?_
  refine wp_skip ?_
  refine hK2 _ _ ?_
  refine wp_seq_k fun K4 hK4 => ?_
  refine wp_seq_k fun K5 hK5 => ?_
  refine A_start (fun Wx => Own W noX [.blk b3 (.cells #[.bool xa.six, .int .u8 ((xa.b0.toNat : Int)), .int .u8 ((xa.b1.toNat : Int)), .int .u8 ((xa.b2.toNat : Int)), .int .u8 ((xa.b3.toNat : Int)), .int .u8 ((xa.b4.toNat : Int)), .int .u8 ((xa.b5.toNat : Int)), .int .u8 ((xa.b6.toNat : Int)), .int .u8 ((xa.b7.toNat : Int)), .int .u8 ((xa.b8.toNat : Int)), .int .u8 ((xa.b9.toNat : Int)), .int .u8 ((xa.b10.toNat : Int)), .int .u8 ((xa.b11.toNat : Int)), .int .u8 ((xa.b12.toNat : Int)), .int .u8 ((xa.b13.toNat : Int)), .int .u8 ((xa.b14.toNat : Int)), .int .u8 ((xa.b15.toNat : Int))] 33 (0, 0)), .blk b2 (.cells #[.bool xd.ip.six, .int .u8 ((xd.ip.b0.toNat : Int)), .int .u8 ((xd.ip.b1.toNat : Int)), .int .u8 ((xd.ip.b2.toNat : Int)), .int .u8 ((xd.ip.b3.toNat : Int)), .int .u8 ((xd.ip.b4.toNat : Int)), .int .u8 ((xd.ip.b5.toNat : Int)), .int .u8 ((xd.ip.b6.toNat : Int)), .int .u8 ((xd.ip.b7.toNat : Int)), .int .u8 ((xd.ip.b8.toNat : Int)), .int .u8 ((xd.ip.b9.toNat : Int)), .int .u8 ((xd.ip.b10.toNat : Int)), .int .u8 ((xd.ip.b11.toNat : Int)), .int .u8 ((xd.ip.b12.toNat : Int)), .int .u8 ((xd.ip.b13.toNat : Int)), .int .u8 ((xd.ip.b14.toNat : Int)), .int .u8 ((xd.ip.b15.toNat : Int)), .int .i64 (xd.port)] 68 (0, 0)), .blk b1 (.cells #[.bool xc.ip.six, .int .u8 ((xc.ip.b0.toNat : Int)), .int .u8 ((xc.ip.b1.toNat : Int)), .int .u8 ((xc.ip.b2.toNat : Int)), .int .u8 ((xc.ip.b3.toNat : Int)), .int .u8 ((xc.ip.b4.toNat : Int)), .int .u8 ((xc.ip.b5.toNat : Int)), .int .u8 ((xc.ip.b6.toNat : Int)), .int .u8 ((xc.ip.b7.toNat : Int)), .int .u8 ((xc.ip.b8.toNat : Int)), .int .u8 ((xc.ip.b9.toNat : Int)), .int .u8 ((xc.ip.b10.toNat : Int)), .int .u8 ((xc.ip.b11.toNat : Int)), .int .u8 ((xc.ip.b12.toNat : Int)), .int .u8 ((xc.ip.b13.toNat : Int)), .int .u8 ((xc.ip.b14.toNat : Int)), .int .u8 ((xc.ip.b15.toNat : Int)), .int .i64 (xc.port)] 68 (0, 0))] Wx) (by kernel_rfl) ?_
  replace hO := hO.drewN 1
  generalize hWd : ({ W4 with drawn := W4.drawn + 1 } : World) = W4_d at hO ⊢; clear hWd
  refine Tk 0 hF (.agg #[.bool xc.ip.six, .int .u8 ((xc.ip.b0.toNat : Int)), .int .u8 ((xc.ip.b1.toNat : Int)), .int .u8 ((xc.ip.b2.toNat : Int)), .int .u8 ((xc.ip.b3.toNat : Int)), .int .u8 ((xc.ip.b4.toNat : Int)), .int .u8 ((xc.ip.b5.toNat : Int)), .int .u8 ((xc.ip.b6.toNat : Int)), .int .u8 ((xc.ip.b7.toNat : Int)), .int .u8 ((xc.ip.b8.toNat : Int)), .int .u8 ((xc.ip.b9.toNat : Int)), .int .u8 ((xc.ip.b10.toNat : Int)), .int .u8 ((xc.ip.b11.toNat : Int)), .int .u8 ((xc.ip.b12.toNat : Int)), .int .u8 ((xc.ip.b13.toNat : Int)), .int .u8 ((xc.ip.b14.toNat : Int)), .int .u8 ((xc.ip.b15.toNat : Int)), .int .i64 (xc.port)]) (fun Wx hO => x_load (p := .pointer (some ⟨b1, 0, none⟩)) rfl (by kernel_rfl) (run_loadA (k := 18) (by kernel_rfl) (by kernel_rfl) (hO.blk (List.mem_cons_of_mem _ (List.mem_cons_of_mem _ List.mem_cons_self))) (by kernel_rfl) (by kernel_rfl))) (hO.sub (.cons_cons _ (.cons_cons _ (.cons_cons _ (List.nil_sublist _))))) ?_; clear hF; intro a hF
  refine Tk 1 hF (.agg #[.bool xa.six, .int .u8 ((xa.b0.toNat : Int)), .int .u8 ((xa.b1.toNat : Int)), .int .u8 ((xa.b2.toNat : Int)), .int .u8 ((xa.b3.toNat : Int)), .int .u8 ((xa.b4.toNat : Int)), .int .u8 ((xa.b5.toNat : Int)), .int .u8 ((xa.b6.toNat : Int)), .int .u8 ((xa.b7.toNat : Int)), .int .u8 ((xa.b8.toNat : Int)), .int .u8 ((xa.b9.toNat : Int)), .int .u8 ((xa.b10.toNat : Int)), .int .u8 ((xa.b11.toNat : Int)), .int .u8 ((xa.b12.toNat : Int)), .int .u8 ((xa.b13.toNat : Int)), .int .u8 ((xa.b14.toNat : Int)), .int .u8 ((xa.b15.toNat : Int))]) (fun Wx hO => x_load (p := .pointer (some ⟨b3, 0, none⟩)) rfl (by kernel_rfl) (run_loadA (k := 17) (by kernel_rfl) (by kernel_rfl) (hO.blk List.mem_cons_self) (by kernel_rfl) (by kernel_rfl))) (hO.sub (.cons_cons _ (.cons_cons _ (.cons_cons _ (List.nil_sublist _))))) ?_; clear hF; intro a hF
  refine Tk 3 hF (.agg #[.bool xc.ip.six, .int .u8 ((xc.ip.b0.toNat : Int)), .int .u8 ((xc.ip.b1.toNat : Int)), .int .u8 ((xc.ip.b2.toNat : Int)), .int .u8 ((xc.ip.b3.toNat : Int)), .int .u8 ((xc.ip.b4.toNat : Int)), .int .u8 ((xc.ip.b5.toNat : Int)), .int .u8 ((xc.ip.b6.toNat : Int)), .int .u8 ((xc.ip.b7.toNat : Int)), .int .u8 ((xc.ip.b8.toNat : Int)), .int .u8 ((xc.ip.b9.toNat : Int)), .int .u8 ((xc.ip.b10.toNat : Int)), .int .u8 ((xc.ip.b11.toNat : Int)), .int .u8 ((xc.ip.b12.toNat : Int)), .int .u8 ((xc.ip.b13.toNat : Int)), .int .u8 ((xc.ip.b14.toNat : Int)), .int .u8 ((xc.ip.b15.toNat : Int)), .int .i64 (xc.port)]) (fun Wx hO => x_load (p := .pointer (some ⟨b1, 0, none⟩)) rfl (by kernel_rfl) (run_loadA (k := 18) (by kernel_rfl) (by kernel_rfl) (hO.blk (List.mem_cons_of_mem _ (List.mem_cons_of_mem _ List.mem_cons_self))) (by kernel_rfl) (by kernel_rfl))) (hO.sub (.cons_cons _ (.cons_cons _ (.cons_cons _ (List.nil_sublist _))))) ?_; clear hF; intro a hF
  refine Tk 4 hF (.agg #[.bool xa.six, .int .u8 ((xa.b0.toNat : Int)), .int .u8 ((xa.b1.toNat : Int)), .int .u8 ((xa.b2.toNat : Int)), .int .u8 ((xa.b3.toNat : Int)), .int .u8 ((xa.b4.toNat : Int)), .int .u8 ((xa.b5.toNat : Int)), .int .u8 ((xa.b6.toNat : Int)), .int .u8 ((xa.b7.toNat : Int)), .int .u8 ((xa.b8.toNat : Int)), .int .u8 ((xa.b9.toNat : Int)), .int .u8 ((xa.b10.toNat : Int)), .int .u8 ((xa.b11.toNat : Int)), .int .u8 ((xa.b12.toNat : Int)), .int .u8 ((xa.b13.toNat : Int)), .int .u8 ((xa.b14.toNat : Int)), .int .u8 ((xa.b15.toNat : Int))]) (fun Wx hO => x_load (p := .pointer (some ⟨b3, 0, none⟩)) rfl (by kernel_rfl) (run_loadA (k := 17) (by kernel_rfl) (by kernel_rfl) (hO.blk List.mem_cons_self) (by kernel_rfl) (by kernel_rfl))) (hO.sub (.cons_cons _ (.cons_cons _ (.cons_cons _ (List.nil_sublist _))))) ?_; clear hF; intro a hF
  refine A_one (i := 2) (listed' := #[true, true, true, true, true, false, false, false, false, false, false, false, false, false, false, false, false, false, false, false, false, false, false, false, false]) (by kernel_rfl) rfl (by kernel_rfl) ?_
  refine OpK.lc hF (cidr_Contains xc xa W4_d) ?_
  clear hF; rintro _ W5 a ⟨rfl, hk⟩ hF
  replace hO := hO.call0 hk; clear hk
  refine ⟨hO.sub (.cons_cons _ (.cons_cons _ (.cons_cons _ (List.nil_sublist _)))), ?_⟩
  refine A_one (i := 5) (listed' := #[true, true, true, true, true, true, false, false, false, false, false, false, false, false, false, false, false, false, false, false, false, false, false, false, false]) (by kernel_rfl) rfl (by kernel_rfl) ?_
  refine OpK.lc hF (ref03_Contains xc xa W5) ?_
  clear hF; rintro _ W6 a ⟨rfl, hk⟩ hF
  replace hO := hO.call0 hk; clear hk
  refine ⟨hO.sub (.cons_cons _ (.cons_cons _ (.cons_cons _ (List.nil_sublist _)))), ?_⟩
  refine Tk 6 hF (.bool false) (fun Wx _ => (x_bool (x := !((contCd xc xa) == (contCd xc xa))) (notF (beq_self_eq_true _)) (by kernel_rfl))) (hO.sub (.cons_cons _ (.cons_cons _ (.cons_cons _ (List.nil_sublist _))))) ?_; clear hF; intro a hF
  refine Tk 7 hF (.bool false) (fun Wx _ => by kernel_rfl) (hO.sub (.cons_cons _ (.cons_cons _ (.cons_cons _ (List.nil_sublist _))))) ?_; clear hF; intro a hF
  refine Tk 8 hF (.agg #[.bool xc.ip.six, .int .u8 ((xc.ip.b0.toNat : Int)), .int .u8 ((xc.ip.b1.toNat : Int)), .int .u8 ((xc.ip.b2.toNat : Int)), .int .u8 ((xc.ip.b3.toNat : Int)), .int .u8 ((xc.ip.b4.toNat : Int)), .int .u8 ((xc.ip.b5.toNat : Int)), .int .u8 ((xc.ip.b6.toNat : Int)), .int .u8 ((xc.ip.b7.toNat : Int)), .int .u8 ((xc.ip.b8.toNat : Int)), .int .u8 ((xc.ip.b9.toNat : Int)), .int .u8 ((xc.ip.b10.toNat : Int)), .int .u8 ((xc.ip.b11.toNat : Int)), .int .u8 ((xc.ip.b12.toNat : Int)), .int .u8 ((xc.ip.b13.toNat : Int)), .int .u8 ((xc.ip.b14.toNat : Int)), .int .u8 ((xc.ip.b15.toNat : Int)), .int .i64 (xc.port)]) (fun Wx hO => x_load (p := .pointer (some ⟨b1, 0, none⟩)) rfl (by kernel_rfl) (run_loadA (k := 18) (by kernel_rfl) (by kernel_rfl) (hO.blk (List.mem_cons_of_mem _ (List.mem_cons_of_mem _ List.mem_cons_self))) (by kernel_rfl) (by kernel_rfl))) (hO.sub (.cons_cons _ (.cons_cons _ (.cons_cons _ (List.nil_sublist _))))) ?_; clear hF; intro a hF
  refine Tk 9 hF (.agg #[.bool xd.ip.six, .int .u8 ((xd.ip.b0.toNat : Int)), .int .u8 ((xd.ip.b1.toNat : Int)), .int .u8 ((xd.ip.b2.toNat : Int)), .int .u8 ((xd.ip.b3.toNat : Int)), .int .u8 ((xd.ip.b4.toNat : Int)), .int .u8 ((xd.ip.b5.toNat : Int)), .int .u8 ((xd.ip.b6.toNat : Int)), .int .u8 ((xd.ip.b7.toNat : Int)), .int .u8 ((xd.ip.b8.toNat : Int)), .int .u8 ((xd.ip.b9.toNat : Int)), .int .u8 ((xd.ip.b10.toNat : Int)), .int .u8 ((xd.ip.b11.toNat : Int)), .int .u8 ((xd.ip.b12.toNat : Int)), .int .u8 ((xd.ip.b13.toNat : Int)), .int .u8 ((xd.ip.b14.toNat : Int)), .int .u8 ((xd.ip.b15.toNat : Int)), .int .i64 (xd.port)]) (fun Wx hO => x_load (p := .pointer (some ⟨b2, 0, none⟩)) rfl (by kernel_rfl) (run_loadA (k := 18) (by kernel_rfl) (by kernel_rfl) (hO.blk (List.mem_cons_of_mem _ List.mem_cons_self)) (by kernel_rfl) (by kernel_rfl))) (hO.sub (.cons_cons _ (.cons_cons _ (.cons_cons _ (List.nil_sublist _))))) ?_; clear hF; intro a hF
  refine Tk 11 hF (.agg #[.bool xc.ip.six, .int .u8 ((xc.ip.b0.toNat : Int)), .int .u8 ((xc.ip.b1.toNat : Int)), .int .u8 ((xc.ip.b2.toNat : Int)), .int .u8 ((xc.ip.b3.toNat : Int)), .int .u8 ((xc.ip.b4.toNat : Int)), .int .u8 ((xc.ip.b5.toNat : Int)), .int .u8 ((xc.ip.b6.toNat : Int)), .int .u8 ((xc.ip.b7.toNat : Int)), .int .u8 ((xc.ip.b8.toNat : Int)), .int .u8 ((xc.ip.b9.toNat : Int)), .int .u8 ((xc.ip.b10.toNat : Int)), .int .u8 ((xc.ip.b11.toNat : Int)), .int .u8 ((xc.ip.b12.toNat : Int)), .int .u8 ((xc.ip.b13.toNat : Int)), .int .u8 ((xc.ip.b14.toNat : Int)), .int .u8 ((xc.ip.b15.toNat : Int)), .int .i64 (xc.port)]) (fun Wx hO => x_load (p := .pointer (some ⟨b1, 0, none⟩)) rfl (by kernel_rfl) (run_loadA (k := 18) (by kernel_rfl) (by kernel_rfl) (hO.blk (List.mem_cons_of_mem _ (List.mem_cons_of_mem _ List.mem_cons_self))) (by kernel_rfl) (by kernel_rfl))) (hO.sub (.cons_cons _ (.cons_cons _ (.cons_cons _ (List.nil_sublist _))))) ?_; clear hF; intro a hF
  refine Tk 12 hF (.agg #[.bool xd.ip.six, .int .u8 ((xd.ip.b0.toNat : Int)), .int .u8 ((xd.ip.b1.toNat : Int)), .int .u8 ((xd.ip.b2.toNat : Int)), .int .u8 ((xd.ip.b3.toNat : Int)), .int .u8 ((xd.ip.b4.toNat : Int)), .int .u8 ((xd.ip.b5.toNat : Int)), .int .u8 ((xd.ip.b6.toNat : Int)), .int .u8 ((xd.ip.b7.toNat : Int)), .int .u8 ((xd.ip.b8.toNat : Int)), .int .u8 ((xd.ip.b9.toNat : Int)), .int .u8 ((xd.ip.b10.toNat : Int)), .int .u8 ((xd.ip.b11.toNat : Int)), .int .u8 ((xd.ip.b12.toNat : Int)), .int .u8 ((xd.ip.b13.toNat : Int)), .int .u8 ((xd.ip.b14.toNat : Int)), .int .u8 ((xd.ip.b15.toNat : Int)), .int .i64 (xd.port)]) (fun Wx hO => x_load (p := .pointer (some ⟨b2, 0, none⟩)) rfl (by kernel_rfl) (run_loadA (k := 18) (by kernel_rfl) (by kernel_rfl) (hO.blk (List.mem_cons_of_mem _ List.mem_cons_self)) (by kernel_rfl) (by kernel_rfl))) (hO.sub (.cons_cons _ (.cons_cons _ (.cons_cons _ (List.nil_sublist _))))) ?_; clear hF; intro a hF
  refine A_one (i := 10) (listed' := #[true, true, true, true, true, true, true, true, true, true, true, true, true, false, false, false, false, false, false, false, false, false, false, false, false]) (by kernel_rfl) rfl (by kernel_rfl) ?_
  refine OpK.lc hF (cidr_Covers xc xd W6) ?_
  clear hF; rintro _ W7 a ⟨rfl, hk⟩ hF
  replace hO := hO.call0 hk; clear hk
  refine ⟨hO.sub (.cons_cons _ (.cons_cons _ (.cons_cons _ (List.nil_sublist _)))), ?_⟩
  refine A_one (i := 13) (listed' := #[true, true, true, true, true, true, true, true, true, true, true, true, true, true, false, false, false, false, false, false, false, false, false, false, false]) (by kernel_rfl) rfl (by kernel_rfl) ?_
  refine OpK.lc hF (ref03_Covers xc xd W7) ?_
  clear hF; rintro _ W8 a ⟨rfl, hk⟩ hF
  replace hO := hO.call0 hk; clear hk
  refine ⟨hO.sub (.cons_cons _ (.cons_cons _ (.cons_cons _ (List.nil_sublist _)))), ?_⟩
  refine Tk 14 hF (.bool false) (fun Wx _ => (x_bool (x := !((covCd xc xd) == (covCd xc xd))) (notF (beq_self_eq_true _)) (by kernel_rfl))) (hO.sub (.cons_cons _ (.cons_cons _ (.cons_cons _ (List.nil_sublist _))))) ?_; clear hF; intro a hF
  refine Tk 15 hF (.bool false) (fun Wx _ => by kernel_rfl) (hO.sub (.cons_cons _ (.cons_cons _ (.cons_cons _ (List.nil_sublist _))))) ?_; clear hF; intro a hF
  refine Tk 16 hF (.bool false) (fun Wx _ => by kernel_rfl) (hO.sub (.cons_cons _ (.cons_cons _ (.cons_cons _ (List.nil_sublist _))))) ?_; clear hF; intro a hF
  refine Tk 17 hF (.agg #[.bool xc.ip.six, .int .u8 ((xc.ip.b0.toNat : Int)), .int .u8 ((xc.ip.b1.toNat : Int)), .int .u8 ((xc.ip.b2.toNat : Int)), .int .u8 ((xc.ip.b3.toNat : Int)), .int .u8 ((xc.ip.b4.toNat : Int)), .int .u8 ((xc.ip.b5.toNat : Int)), .int .u8 ((xc.ip.b6.toNat : Int)), .int .u8 ((xc.ip.b7.toNat : Int)), .int .u8 ((xc.ip.b8.toNat : Int)), .int .u8 ((xc.ip.b9.toNat : Int)), .int .u8 ((xc.ip.b10.toNat : Int)), .int .u8 ((xc.ip.b11.toNat : Int)), .int .u8 ((xc.ip.b12.toNat : Int)), .int .u8 ((xc.ip.b13.toNat : Int)), .int .u8 ((xc.ip.b14.toNat : Int)), .int .u8 ((xc.ip.b15.toNat : Int)), .int .i64 (xc.port)]) (fun Wx hO => x_load (p := .pointer (some ⟨b1, 0, none⟩)) rfl (by kernel_rfl) (run_loadA (k := 18) (by kernel_rfl) (by kernel_rfl) (hO.blk (List.mem_cons_of_mem _ (List.mem_cons_of_mem _ List.mem_cons_self))) (by kernel_rfl) (by kernel_rfl))) (hO.sub (.cons_cons _ (.cons_cons _ (.cons_cons _ (List.nil_sublist _))))) ?_; clear hF; intro a hF
  refine Tk 18 hF (.agg #[.bool xd.ip.six, .int .u8 ((xd.ip.b0.toNat : Int)), .int .u8 ((xd.ip.b1.toNat : Int)), .int .u8 ((xd.ip.b2.toNat : Int)), .int .u8 ((xd.ip.b3.toNat : Int)), .int .u8 ((xd.ip.b4.toNat : Int)), .int .u8 ((xd.ip.b5.toNat : Int)), .int .u8 ((xd.ip.b6.toNat : Int)), .int .u8 ((xd.ip.b7.toNat : Int)), .int .u8 ((xd.ip.b8.toNat : Int)), .int .u8 ((xd.ip.b9.toNat : Int)), .int .u8 ((xd.ip.b10.toNat : Int)), .int .u8 ((xd.ip.b11.toNat : Int)), .int .u8 ((xd.ip.b12.toNat : Int)), .int .u8 ((xd.ip.b13.toNat : Int)), .int .u8 ((xd.ip.b14.toNat : Int)), .int .u8 ((xd.ip.b15.toNat : Int)), .int .i64 (xd.port)]) (fun Wx hO => x_load (p := .pointer (some ⟨b2, 0, none⟩)) rfl (by kernel_rfl) (run_loadA (k := 18) (by kernel_rfl) (by kernel_rfl) (hO.blk (List.mem_cons_of_mem _ List.mem_cons_self)) (by kernel_rfl) (by kernel_rfl))) (hO.sub (.cons_cons _ (.cons_cons _ (.cons_cons _ (List.nil_sublist _))))) ?_; clear hF; intro a hF
  refine Tk 20 hF (.agg #[.bool xc.ip.six, .int .u8 ((xc.ip.b0.toNat : Int)), .int .u8 ((xc.ip.b1.toNat : Int)), .int .u8 ((xc.ip.b2.toNat : Int)), .int .u8 ((xc.ip.b3.toNat : Int)), .int .u8 ((xc.ip.b4.toNat : Int)), .int .u8 ((xc.ip.b5.toNat : Int)), .int .u8 ((xc.ip.b6.toNat : Int)), .int .u8 ((xc.ip.b7.toNat : Int)), .int .u8 ((xc.ip.b8.toNat : Int)), .int .u8 ((xc.ip.b9.toNat : Int)), .int .u8 ((xc.ip.b10.toNat : Int)), .int .u8 ((xc.ip.b11.toNat : Int)), .int .u8 ((xc.ip.b12.toNat : Int)), .int .u8 ((xc.ip.b13.toNat : Int)), .int .u8 ((xc.ip.b14.toNat : Int)), .int .u8 ((xc.ip.b15.toNat : Int)), .int .i64 (xc.port)]) (fun Wx hO => x_load (p := .pointer (some ⟨b1, 0, none⟩)) rfl (by kernel_rfl) (run_loadA (k := 18) (by kernel_rfl) (by kernel_rfl) (hO.blk (List.mem_cons_of_mem _ (List.mem_cons_of_mem _ List.mem_cons_self))) (by kernel_rfl) (by kernel_rfl))) (hO.sub (.cons_cons _ (.cons_cons _ (.cons_cons _ (List.nil_sublist _))))) ?_; clear hF; intro a hF
  refine Tk 21 hF (.agg #[.bool xd.ip.six, .int .u8 ((xd.ip.b0.toNat : Int)), .int .u8 ((xd.ip.b1.toNat : Int)), .int .u8 ((xd.ip.b2.toNat : Int)), .int .u8 ((xd.ip.b3.toNat : Int)), .int .u8 ((xd.ip.b4.toNat : Int)), .int .u8 ((xd.ip.b5.toNat : Int)), .int .u8 ((xd.ip.b6.toNat : Int)), .int .u8 ((xd.ip.b7.toNat : Int)), .int .u8 ((xd.ip.b8.toNat : Int)), .int .u8 ((xd.ip.b9.toNat : Int)), .int .u8 ((xd.ip.b10.toNat : Int)), .int .u8 ((xd.ip.b11.toNat : Int)), .int .u8 ((xd.ip.b12.toNat : Int)), .int .u8 ((xd.ip.b13.toNat : Int)), .int .u8 ((xd.ip.b14.toNat : Int)), .int .u8 ((xd.ip.b15.toNat : Int)), .int .i64 (xd.port)]) (fun Wx hO => x_load (p := .pointer (some ⟨b2, 0, none⟩)) rfl (by kernel_rfl) (run_loadA (k := 18) (by kernel_rfl) (by kernel_rfl) (hO.blk (List.mem_cons_of_mem _ List.mem_cons_self)) (by kernel_rfl) (by kernel_rfl))) (hO.sub (.cons_cons _ (.cons_cons _ (.cons_cons _ (List.nil_sublist _))))) ?_; clear hF; intro a hF
  refine A_one (i := 19) (listed' := #[true, true, true, true, true, true, true, true, true, true, true, true, true, true, true, true, true, true, true, true, true, true, false, false, false]) (by kernel_rfl) rfl (by kernel_rfl) ?_
  refine OpK.lc hF (cidr_Compare xc xd W8) ?_
  clear hF; rintro _ W9 a ⟨rfl, hk⟩ hF
  replace hO := hO.call0 hk; clear hk
  refine ⟨hO.sub (.cons_cons _ (.cons_cons _ (.cons_cons _ (List.nil_sublist _)))), ?_⟩
  refine A_one (i := 22) (listed' := #[true, true, true, true, true, true, true, true, true, true, true, true, true, true, true, true, true, true, true, true, true, true, true, false, false]) (by kernel_rfl) rfl (by kernel_rfl) ?_
  refine OpK.lc hF (ref03_Compare xc xd W9) ?_
  clear hF; rintro _ W10 a ⟨rfl, hk⟩ hF
  replace hO := hO.call0 hk; clear hk
  refine ⟨hO.sub (.cons_cons _ (.cons_cons _ (.cons_cons _ (List.nil_sublist _)))), ?_⟩
  refine Tk 23 hF (.bool false) (fun Wx _ => (x_bool (x := !((cmpCd xc xd) == (cmpCd xc xd))) (notF (beq_self_eq_true _)) (by kernel_rfl))) (hO.sub (.cons_cons _ (.cons_cons _ (.cons_cons _ (List.nil_sublist _))))) ?_; clear hF; intro a hF
  refine Tk 24 hF (.bool false) (fun Wx _ => by kernel_rfl) (hO.sub (.cons_cons _ (.cons_cons _ (.cons_cons _ (List.nil_sublist _))))) ?_; clear hF; intro a hF
  refine A_done (by kernel_rfl) ?_
  refine hK5 _ _ ?_
  refine cond_f hF (by kernel_rfl) (by kernel_rfl) ?_
  refine wp_skip ?_
  refine hK4 _ _ ?_
  refine wp_seq_k fun K6 hK6 => ?_
  refine wp_region_lit ?_
  refine Vr hF (.agg #[.bool xa.six, .int .u8 ((xa.b0.toNat : Int)), .int .u8 ((xa.b1.toNat : Int)), .int .u8 ((xa.b2.toNat : Int)), .int .u8 ((xa.b3.toNat : Int)), .int .u8 ((xa.b4.toNat : Int)), .int .u8 ((xa.b5.toNat : Int)), .int .u8 ((xa.b6.toNat : Int)), .int .u8 ((xa.b7.toNat : Int)), .int .u8 ((xa.b8.toNat : Int)), .int .u8 ((xa.b9.toNat : Int)), .int .u8 ((xa.b10.toNat : Int)), .int .u8 ((xa.b11.toNat : Int)), .int .u8 ((xa.b12.toNat : Int)), .int .u8 ((xa.b13.toNat : Int)), .int .u8 ((xa.b14.toNat : Int)), .int .u8 ((xa.b15.toNat : Int))]) (x_load (p := .pointer (some ⟨b3, 0, none⟩)) rfl (by kernel_rfl) (run_loadA (k := 17) (by kernel_rfl) (by kernel_rfl) (hO.blk List.mem_cons_self) (by kernel_rfl) (by kernel_rfl))) ?_; clear hF; intro a hF
  refine Vp hF (.pointer (some ⟨b1, 17, none⟩)) ?_; clear hF; intro a hF
  refine Vr hF (.int .i64 (xc.port)) (x_load (p := .pointer (some ⟨b1, 17, none⟩)) rfl (by kernel_rfl) (run_load1 (by kernel_rfl) ((hO.cell (List.mem_cons_of_mem _ (List.mem_cons_of_mem _ List.mem_cons_self))).trans (by kernel_rfl)))) ?_; clear hF; intro a hF
  refine Lc hF ((cidr_Of I ea xa xc.port W10 (hG.own hO) (hE.own hO) h3 h0 h7).mono fun v W' h => (⟨by rw [h.1]; unfold ofCd; rw [if_pos hr, if_neg (by rw [hf]; simp)]; rfl, h.2⟩ : v = .tuple #[ptV noPt, errV ea 0] ∧ Own W10 noX [] W')) ?_
  clear hF; rintro _ W11 a ⟨rfl, hk⟩ hF
  replace hO := hO.call0 hk; clear hk
  refine Vp hF (.tuple #[ptV noPt, errV ea 0]) ?_; clear hF; intro a hF
  refine Vp hF (ptV noPt) ?_; clear hF; intro a hF
  refine Vp hF (errV ea 0) ?_; clear hF; intro a hF
  refine L_new hF hO (by kernel_rfl) (by kernel_rfl) (vf := fun b => .pointer (some ⟨b, 0, none⟩)) (ob := .cells #[.bool false, .int .u8 0, .int .u8 0, .int .u8 0, .int .u8 0, .int .u8 0, .int .u8 0, .int .u8 0, .int .u8 0, .int .u8 0, .int .u8 0, .int .u8 0, .int .u8 0, .int .u8 0, .int .u8 0, .int .u8 0, .int .u8 0, .int .i64 0] 68) (by kernel_rfl) (by kernel_rfl) ?_
  clear hF hO; intro b4 W12 a hO hF
  obtain ⟨W13, hst, hO1⟩ := run_storeAt (P := Tryz.prog) (k := 18) (T := 68) (off := 0) (v := ptV noPt) (cs := #[.bool false, .int .u8 0, .int .u8 0, .int .u8 0, .int .u8 0, .int .u8 0, .int .u8 0, .int .u8 0, .int .u8 0, .int .u8 0, .int .u8 0, .int .u8 0, .int .u8 0, .int .u8 0, .int .u8 0, .int .u8 0, .int .u8 0, .int .i64 0]) (cs' := #[.bool noPt.ip.six, .int .u8 ((noPt.ip.b0.toNat : Int)), .int .u8 ((noPt.ip.b1.toNat : Int)), .int .u8 ((noPt.ip.b2.toNat : Int)), .int .u8 ((noPt.ip.b3.toNat : Int)), .int .u8 ((noPt.ip.b4.toNat : Int)), .int .u8 ((noPt.ip.b5.toNat : Int)), .int .u8 ((noPt.ip.b6.toNat : Int)), .int .u8 ((noPt.ip.b7.toNat : Int)), .int .u8 ((noPt.ip.b8.toNat : Int)), .int .u8 ((noPt.ip.b9.toNat : Int)), .int .u8 ((noPt.ip.b10.toNat : Int)), .int .u8 ((noPt.ip.b11.toNat : Int)), .int .u8 ((noPt.ip.b12.toNat : Int)), .int .u8 ((noPt.ip.b13.toNat : Int)), .int .u8 ((noPt.ip.b14.toNat : Int)), .int .u8 ((noPt.ip.b15.toNat : Int)), .int .i64 (noPt.port)]) hO (by kernel_rfl) (by kernel_rfl) (by kernel_rfl) (Nat.le_of_ble_eq_true (by kernel_rfl)) (by kernel_rfl) (.head _)
  refine L_skip hF (by kernel_rfl) (by kernel_rfl) (x_store (p := .pointer (some ⟨b4, 0, none⟩)) (v := ptV noPt) rfl (by kernel_rfl) (by kernel_rfl) hst) (by kernel_rfl) ?_
  clear hst hF; intro a hF; replace hO := hO1; clear hO1
  refine Vp hF (errV ea 0) ?_; clear hF; intro a hF
  refine L_nil ?_
  refine hK6 _ _ ?_
  refine wp_seq_k fun K7 hK7 => ?_
  refine wp_seq_k fun K8 hK8 => ?_
  refine wp_region_lit ?_
  refine Vr hF (.agg #[.bool xa.six, .int .u8 ((xa.b0.toNat : Int)), .int .u8 ((xa.b1.toNat : Int)), .int .u8 ((xa.b2.toNat : Int)), .int .u8 ((xa.b3.toNat : Int)), .int .u8 ((xa.b4.toNat : Int)), .int .u8 ((xa.b5.toNat : Int)), .int .u8 ((xa.b6.toNat : Int)), .int .u8 ((xa.b7.toNat : Int)), .int .u8 ((xa.b8.toNat : Int)), .int .u8 ((xa.b9.toNat : Int)), .int .u8 ((xa.b10.toNat : Int)), .int .u8 ((xa.b11.toNat : Int)), .int .u8 ((xa.b12.toNat : Int)), .int .u8 ((xa.b13.toNat : Int)), .int .u8 ((xa.b14.toNat : Int)), .int .u8 ((xa.b15.toNat : Int))]) (x_load (p := .pointer (some ⟨b3, 0, none⟩)) rfl (by kernel_rfl) (run_loadA (k := 17) (by kernel_rfl) (by kernel_rfl) (hO.blk (List.mem_cons_of_mem _ List.mem_cons_self)) (by kernel_rfl) (by kernel_rfl))) ?_; clear hF; intro a hF
  refine Lc hF (ref02_Right xa W13) ?_
  clear hF; rintro _ W14 a ⟨rfl, hk⟩ hF
  replace hO := hO.call0 hk; clear hk
  refine Vp hF (.bool (!(rightIp xa))) ?_; clear hF; intro a hF
  refine L_nil ?_
  refine hK8 _ _ ?_
  replace hF := hF.know (d := 45) (v' := .bool false) (by kernel_rfl) (congrArg Value.bool (notF hr))
  refine cond_f hF (by kernel_rfl) (by kernel_rfl) ?_
  refine wp_skip ?_
  refine hK7 _ _ ?_
  refine wp_seq_k fun K9 hK9 => ?_
  refine wp_seq_k fun K10 hK10 => ?_
  refine A_start (fun Wx => Own W noX [.blk b4 (.cells #[.bool noPt.ip.six, .int .u8 ((noPt.ip.b0.toNat : Int)), .int .u8 ((noPt.ip.b1.toNat : Int)), .int .u8 ((noPt.ip.b2.toNat : Int)), .int .u8 ((noPt.ip.b3.toNat : Int)), .int .u8 ((noPt.ip.b4.toNat : Int)), .int .u8 ((noPt.ip.b5.toNat : Int)), .int .u8 ((noPt.ip.b6.toNat : Int)), .int .u8 ((noPt.ip.b7.toNat : Int)), .int .u8 ((noPt.ip.b8.toNat : Int)), .int .u8 ((noPt.ip.b9.toNat : Int)), .int .u8 ((noPt.ip.b10.toNat : Int)), .int .u8 ((noPt.ip.b11.toNat : Int)), .int .u8 ((noPt.ip.b12.toNat : Int)), .int .u8 ((noPt.ip.b13.toNat : Int)), .int .u8 ((noPt.ip.b14.toNat : Int)), .int .u8 ((noPt.ip.b15.toNat : Int)), .int .i64 (noPt.port)] 68 (0, 0)), .blk b3 (.cells #[.bool xa.six, .int .u8 ((xa.b0.toNat : Int)), .int .u8 ((xa.b1.toNat : Int)), .int .u8 ((xa.b2.toNat : Int)), .int .u8 ((xa.b3.toNat : Int)), .int .u8 ((xa.b4.toNat : Int)), .int .u8 ((xa.b5.toNat : Int)), .int .u8 ((xa.b6.toNat : Int)), .int .u8 ((xa.b7.toNat : Int)), .int .u8 ((xa.b8.toNat : Int)), .int .u8 ((xa.b9.toNat : Int)), .int .u8 ((xa.b10.toNat : Int)), .int .u8 ((xa.b11.toNat : Int)), .int .u8 ((xa.b12.toNat : Int)), .int .u8 ((xa.b13.toNat : Int)), .int .u8 ((xa.b14.toNat : Int)), .int .u8 ((xa.b15.toNat : Int))] 33 (0, 0)), .blk b2 (.cells #[.bool xd.ip.six, .int .u8 ((xd.ip.b0.toNat : Int)), .int .u8 ((xd.ip.b1.toNat : Int)), .int .u8 ((xd.ip.b2.toNat : Int)), .int .u8 ((xd.ip.b3.toNat : Int)), .int .u8 ((xd.ip.b4.toNat : Int)), .int .u8 ((xd.ip.b5.toNat : Int)), .int .u8 ((xd.ip.b6.toNat : Int)), .int .u8 ((xd.ip.b7.toNat : Int)), .int .u8 ((xd.ip.b8.toNat : Int)), .int .u8 ((xd.ip.b9.toNat : Int)), .int .u8 ((xd.ip.b10.toNat : Int)), .int .u8 ((xd.ip.b11.toNat : Int)), .int .u8 ((xd.ip.b12.toNat : Int)), .int .u8 ((xd.ip.b13.toNat : Int)), .int .u8 ((xd.ip.b14.toNat : Int)), .int .u8 ((xd.ip.b15.toNat : Int)), .int .i64 (xd.port)] 68 (0, 0)), .blk b1 (.cells #[.bool xc.ip.six, .int .u8 ((xc.ip.b0.toNat : Int)), .int .u8 ((xc.ip.b1.toNat : Int)), .int .u8 ((xc.ip.b2.toNat : Int)), .int .u8 ((xc.ip.b3.toNat : Int)), .int .u8 ((xc.ip.b4.toNat : Int)), .int .u8 ((xc.ip.b5.toNat : Int)), .int .u8 ((xc.ip.b6.toNat : Int)), .int .u8 ((xc.ip.b7.toNat : Int)), .int .u8 ((xc.ip.b8.toNat : Int)), .int .u8 ((xc.ip.b9.toNat : Int)), .int .u8 ((xc.ip.b10.toNat : Int)), .int .u8 ((xc.ip.b11.toNat : Int)), .int .u8 ((xc.ip.b12.toNat : Int)), .int .u8 ((xc.ip.b13.toNat : Int)), .int .u8 ((xc.ip.b14.toNat : Int)), .int .u8 ((xc.ip.b15.toNat : Int)), .int .i64 (xc.port)] 68 (0, 0))] Wx) (by kernel_rfl) ?_
  replace hO := hO.drewN 1
  generalize hWd : ({ W14 with drawn := W14.drawn + 1 } : World) = W14_d at hO ⊢; clear hWd
  refine Tk 0 hF (.pointer (some ⟨b1, 17, none⟩)) (fun Wx _ => by kernel_rfl) (hO.sub (.cons_cons _ (.cons_cons _ (.cons_cons _ (.cons_cons _ (List.nil_sublist _)))))) ?_; clear hF; intro a hF
  refine Tk 1 hF (.int .i64 (xc.port)) (fun Wx hO => x_load (p := .pointer (some ⟨b1, 17, none⟩)) rfl (by kernel_rfl) (run_load1 (by kernel_rfl) ((hO.cell (List.mem_cons_of_mem _ (List.mem_cons_of_mem _ (List.mem_cons_of_mem _ List.mem_cons_self)))).trans (by kernel_rfl)))) (hO.sub (.cons_cons _ (.cons_cons _ (.cons_cons _ (.cons_cons _ (List.nil_sublist _)))))) ?_; clear hF; intro a hF
  refine Tk 2 hF (.bool (decide (xc.port < 0))) (fun Wx _ => by kernel_rfl) (hO.sub (.cons_cons _ (.cons_cons _ (.cons_cons _ (.cons_cons _ (List.nil_sublist _)))))) ?_; clear hF; intro a hF
  refine Tk 3 hF (.bool (decide (xc.port < 0))) (fun Wx _ => by kernel_rfl) (hO.sub (.cons_cons _ (.cons_cons _ (.cons_cons _ (.cons_cons _ (List.nil_sublist _)))))) ?_; clear hF; intro a hF
  by_cases q1 : xc.port < 0
  ·
    replace hF := hF.know (d := 57) (v' := .bool true) (by kernel_rfl) (congrArg Value.bool (decide_eq_true q1))
    refine To 4 hF (hO.sub (.cons_cons _ (.cons_cons _ (.cons_cons _ (.cons_cons _ (List.nil_sublist _)))))) ?_; clear hF; intro a hF
    refine To 5 hF (hO.sub (.cons_cons _ (.cons_cons _ (.cons_cons _ (.cons_cons _ (List.nil_sublist _)))))) ?_; clear hF; intro a hF
    refine To 6 hF (hO.sub (.cons_cons _ (.cons_cons _ (.cons_cons _ (.cons_cons _ (List.nil_sublist _)))))) ?_; clear hF; intro a hF
    refine To 7 hF (hO.sub (.cons_cons _ (.cons_cons _ (.cons_cons _ (.cons_cons _ (List.nil_sublist _)))))) ?_; clear hF; intro a hF
    refine To 8 hF (hO.sub (.cons_cons _ (.cons_cons _ (.cons_cons _ (.cons_cons _ (List.nil_sublist _)))))) ?_; clear hF; intro a hF
    refine Tk 9 hF (.bool true) (fun Wx _ => by kernel_rfl) (hO.sub (.cons_cons _ (.cons_cons _ (.cons_cons _ (.cons_cons _ (List.nil_sublist _)))))) ?_; clear hF; intro a hF
    refine A_done (by kernel_rfl) ?_
    refine hK10 _ _ ?_
    refine cond_t hF (by kernel_rfl) (by kernel_rfl) ?_
    refine wp_seq_k fun K11 hK11 => ?_
    refine wp_region_lit ?_
    refine Vr hF (.agg #[.bool noPt.ip.six, .int .u8 ((noPt.ip.b0.toNat : Int)), .int .u8 ((noPt.ip.b1.toNat : Int)), .int .u8 ((noPt.ip.b2.toNat : Int)), .int .u8 ((noPt.ip.b3.toNat : Int)), .int .u8 ((noPt.ip.b4.toNat : Int)), .int .u8 ((noPt.ip.b5.toNat : Int)), .int .u8 ((noPt.ip.b6.toNat : Int)), .int .u8 ((noPt.ip.b7.toNat : Int)), .int .u8 ((noPt.ip.b8.toNat : Int)), .int .u8 ((noPt.ip.b9.toNat : Int)), .int .u8 ((noPt.ip.b10.toNat : Int)), .int .u8 ((noPt.ip.b11.toNat : Int)), .int .u8 ((noPt.ip.b12.toNat : Int)), .int .u8 ((noPt.ip.b13.toNat : Int)), .int .u8 ((noPt.ip.b14.toNat : Int)), .int .u8 ((noPt.ip.b15.toNat : Int)), .int .i64 (noPt.port)]) (x_load (p := .pointer (some ⟨b4, 0, none⟩)) rfl (by kernel_rfl) (run_loadA (k := 18) (by kernel_rfl) (by kernel_rfl) (hO.blk List.mem_cons_self) (by kernel_rfl) (by kernel_rfl))) ?_; clear hF; intro a hF
    refine Vp hF (.agg #[.bool false, .int .u8 0, .int .u8 0, .int .u8 0, .int .u8 0, .int .u8 0, .int .u8 0, .int .u8 0, .int .u8 0, .int .u8 0, .int .u8 0, .int .u8 0, .int .u8 0, .int .u8 0, .int .u8 0, .int .u8 0, .int .u8 0, .int .i64 0]) ?_; clear hF; intro a hF
    refine Vr hF (.bool true) (x_bool (x := decide (noPt = noPt)) (decide_eq_true rfl) (x_eqCd (a := noPt) (b := noPt) rfl (by kernel_rfl) (by kernel_rfl))) ?_; clear hF; intro a hF
    refine Vp hF (.bool true) ?_; clear hF; intro a hF
    refine Vp hF (errV ea 0) ?_; clear hF; intro a hF
    refine Lc hF (num_err ea 0 W14_d (hI ▸ hE.own hO) (by decide)) ?_
    clear hF; rintro _ W15 a ⟨rfl, hk⟩ hF
    replace hO := hO.call0 hk; clear hk
    refine Vp hF (.bool true) ?_; clear hF; intro a hF
    refine Vp hF (.bool true) ?_; clear hF; intro a hF
    refine Vp hF (.bool true) ?_; clear hF; intro a hF
    refine L_nil ?_
    refine hK11 _ _ ?_
    refine wp_ret ?_
    refine then_ret ?_
    -- way 1: rightIp xa; xc.port < 0
    refine ret1 hF (v := .bool true) rfl (resT (by kernel_rfl)) (by refine ⟨?_, hO.nil⟩; first | rfl | (exfalso; omega) | exact congrArg Value.bool (cont_of hr hf) | (exfalso; have hc := cont_of hr hf; have hq : contCd ⟨cutIp xa xc.port, xc.port⟩ xa = false := (by assumption); rw [hc] at hq; cases hq)) .ret (.inl rfl)
  ·
    replace hF := hF.know (d := 57) (v' := .bool false) (by kernel_rfl) (congrArg Value.bool (decide_eq_false q1))
    refine Tk 4 hF (.pointer (some ⟨b1, 17, none⟩)) (fun Wx _ => by kernel_rfl) (hO.sub (.cons_cons _ (.cons_cons _ (.cons_cons _ (.cons_cons _ (List.nil_sublist _)))))) ?_; clear hF; intro a hF
    refine Tk 5 hF (.int .i64 (xc.port)) (fun Wx hO => x_load (p := .pointer (some ⟨b1, 17, none⟩)) rfl (by kernel_rfl) (run_load1 (by kernel_rfl) ((hO.cell (List.mem_cons_of_mem _ (List.mem_cons_of_mem _ (List.mem_cons_of_mem _ List.mem_cons_self)))).trans (by kernel_rfl)))) (hO.sub (.cons_cons _ (.cons_cons _ (.cons_cons _ (.cons_cons _ (List.nil_sublist _)))))) ?_; clear hF; intro a hF
    refine Tk 6 hF (.agg #[.bool xa.six, .int .u8 ((xa.b0.toNat : Int)), .int .u8 ((xa.b1.toNat : Int)), .int .u8 ((xa.b2.toNat : Int)), .int .u8 ((xa.b3.toNat : Int)), .int .u8 ((xa.b4.toNat : Int)), .int .u8 ((xa.b5.toNat : Int)), .int .u8 ((xa.b6.toNat : Int)), .int .u8 ((xa.b7.toNat : Int)), .int .u8 ((xa.b8.toNat : Int)), .int .u8 ((xa.b9.toNat : Int)), .int .u8 ((xa.b10.toNat : Int)), .int .u8 ((xa.b11.toNat : Int)), .int .u8 ((xa.b12.toNat : Int)), .int .u8 ((xa.b13.toNat : Int)), .int .u8 ((xa.b14.toNat : Int)), .int .u8 ((xa.b15.toNat : Int))]) (fun Wx hO => x_load (p := .pointer (some ⟨b3, 0, none⟩)) rfl (by kernel_rfl) (run_loadA (k := 17) (by kernel_rfl) (by kernel_rfl) (hO.blk (List.mem_cons_of_mem _ List.mem_cons_self)) (by kernel_rfl) (by kernel_rfl))) (hO.sub (.cons_cons _ (.cons_cons _ (.cons_cons _ (.cons_cons _ (List.nil_sublist _)))))) ?_; clear hF; intro a hF
    refine A_one (i := 7) (listed' := #[true, true, true, true, true, true, true, true, false, false]) (by kernel_rfl) rfl (by kernel_rfl) ?_
    refine OpK.lc hF (ref03_Width xa W14_d) ?_
    clear hF; rintro _ W16 a ⟨rfl, hk⟩ hF
    replace hO := hO.call0 hk; clear hk
    refine ⟨hO.sub (.cons_cons _ (.cons_cons _ (.cons_cons _ (.cons_cons _ (List.nil_sublist _))))), ?_⟩
    refine Tk 8 hF (.bool (decide (xc.port > (widthIp xa)))) (fun Wx _ => by kernel_rfl) (hO.sub (.cons_cons _ (.cons_cons _ (.cons_cons _ (.cons_cons _ (List.nil_sublist _)))))) ?_; clear hF; intro a hF
    refine Tk 9 hF (.bool (decide (xc.port > (widthIp xa)))) (fun Wx _ => by kernel_rfl) (hO.sub (.cons_cons _ (.cons_cons _ (.cons_cons _ (.cons_cons _ (List.nil_sublist _)))))) ?_; clear hF; intro a hF
    refine A_done (by kernel_rfl) ?_
    refine hK10 _ _ ?_
    by_cases q2 : xc.port > (widthIp xa)
    ·
      replace hF := hF.know (d := 63) (v' := .bool true) (by kernel_rfl) (congrArg Value.bool (decide_eq_true q2))
      refine cond_t hF (by kernel_rfl) (by kernel_rfl) ?_
      refine wp_seq_k fun K12 hK12 => ?_
      refine wp_region_lit ?_
      refine Vr hF (.agg #[.bool noPt.ip.six, .int .u8 ((noPt.ip.b0.toNat : Int)), .int .u8 ((noPt.ip.b1.toNat : Int)), .int .u8 ((noPt.ip.b2.toNat : Int)), .int .u8 ((noPt.ip.b3.toNat : Int)), .int .u8 ((noPt.ip.b4.toNat : Int)), .int .u8 ((noPt.ip.b5.toNat : Int)), .int .u8 ((noPt.ip.b6.toNat : Int)), .int .u8 ((noPt.ip.b7.toNat : Int)), .int .u8 ((noPt.ip.b8.toNat : Int)), .int .u8 ((noPt.ip.b9.toNat : Int)), .int .u8 ((noPt.ip.b10.toNat : Int)), .int .u8 ((noPt.ip.b11.toNat : Int)), .int .u8 ((noPt.ip.b12.toNat : Int)), .int .u8 ((noPt.ip.b13.toNat : Int)), .int .u8 ((noPt.ip.b14.toNat : Int)), .int .u8 ((noPt.ip.b15.toNat : Int)), .int .i64 (noPt.port)]) (x_load (p := .pointer (some ⟨b4, 0, none⟩)) rfl (by kernel_rfl) (run_loadA (k := 18) (by kernel_rfl) (by kernel_rfl) (hO.blk List.mem_cons_self) (by kernel_rfl) (by kernel_rfl))) ?_; clear hF; intro a hF
      refine Vp hF (.agg #[.bool false, .int .u8 0, .int .u8 0, .int .u8 0, .int .u8 0, .int .u8 0, .int .u8 0, .int .u8 0, .int .u8 0, .int .u8 0, .int .u8 0, .int .u8 0, .int .u8 0, .int .u8 0, .int .u8 0, .int .u8 0, .int .u8 0, .int .i64 0]) ?_; clear hF; intro a hF
      refine Vr hF (.bool true) (x_bool (x := decide (noPt = noPt)) (decide_eq_true rfl) (x_eqCd (a := noPt) (b := noPt) rfl (by kernel_rfl) (by kernel_rfl))) ?_; clear hF; intro a hF
      refine Vp hF (.bool true) ?_; clear hF; intro a hF
      refine Vp hF (errV ea 0) ?_; clear hF; intro a hF
      refine Lc hF (num_err ea 0 W16 (hI ▸ hE.own hO) (by decide)) ?_
      clear hF; rintro _ W17 a ⟨rfl, hk⟩ hF
      replace hO := hO.call0 hk; clear hk
      refine Vp hF (.bool true) ?_; clear hF; intro a hF
      refine Vp hF (.bool true) ?_; clear hF; intro a hF
      refine Vp hF (.bool true) ?_; clear hF; intro a hF
      refine L_nil ?_
      refine hK12 _ _ ?_
      refine wp_ret ?_
      refine then_ret ?_
      -- way 2: rightIp xa; ¬ xc.port < 0; xc.port > (widthIp xa)
      refine ret1 hF (v := .bool true) rfl (resT (by kernel_rfl)) (by refine ⟨?_, hO.nil⟩; first | rfl | (exfalso; omega) | exact congrArg Value.bool (cont_of hr hf) | (exfalso; have hc := cont_of hr hf; have hq : contCd ⟨cutIp xa xc.port, xc.port⟩ xa = false := (by assumption); rw [hc] at hq; cases hq)) .ret (.inl rfl)
    ·
      replace hF := hF.know (d := 63) (v' := .bool false) (by kernel_rfl) (congrArg Value.bool (decide_eq_false q2))
      refine cond_f hF (by kernel_rfl) (by kernel_rfl) ?_
      refine wp_skip ?_
      refine hK9 _ _ ?_
      refine wp_seq_k fun K13 hK13 => ?_
      refine A_start (fun Wx => Own W noX [.blk b4 (.cells #[.bool noPt.ip.six, .int .u8 ((noPt.ip.b0.toNat : Int)), .int .u8 ((noPt.ip.b1.toNat : Int)), .int .u8 ((noPt.ip.b2.toNat : Int)), .int .u8 ((noPt.ip.b3.toNat : Int)), .int .u8 ((noPt.ip.b4.toNat : Int)), .int .u8 ((noPt.ip.b5.toNat : Int)), .int .u8 ((noPt.ip.b6.toNat : Int)), .int .u8 ((noPt.ip.b7.toNat : Int)), .int .u8 ((noPt.ip.b8.toNat : Int)), .int .u8 ((noPt.ip.b9.toNat : Int)), .int .u8 ((noPt.ip.b10.toNat : Int)), .int .u8 ((noPt.ip.b11.toNat : Int)), .int .u8 ((noPt.ip.b12.toNat : Int)), .int .u8 ((noPt.ip.b13.toNat : Int)), .int .u8 ((noPt.ip.b14.toNat : Int)), .int .u8 ((noPt.ip.b15.toNat : Int)), .int .i64 (noPt.port)] 68 (0, 0)), .blk b3 (.cells #[.bool xa.six, .int .u8 ((xa.b0.toNat : Int)), .int .u8 ((xa.b1.toNat : Int)), .int .u8 ((xa.b2.toNat : Int)), .int .u8 ((xa.b3.toNat : Int)), .int .u8 ((xa.b4.toNat : Int)), .int .u8 ((xa.b5.toNat : Int)), .int .u8 ((xa.b6.toNat : Int)), .int .u8 ((xa.b7.toNat : Int)), .int .u8 ((xa.b8.toNat : Int)), .int .u8 ((xa.b9.toNat : Int)), .int .u8 ((xa.b10.toNat : Int)), .int .u8 ((xa.b11.toNat : Int)), .int .u8 ((xa.b12.toNat : Int)), .int .u8 ((xa.b13.toNat : Int)), .int .u8 ((xa.b14.toNat : Int)), .int .u8 ((xa.b15.toNat : Int))] 33 (0, 0)), .blk b2 (.cells #[.bool xd.ip.six, .int .u8 ((xd.ip.b0.toNat : Int)), .int .u8 ((xd.ip.b1.toNat : Int)), .int .u8 ((xd.ip.b2.toNat : Int)), .int .u8 ((xd.ip.b3.toNat : Int)), .int .u8 ((xd.ip.b4.toNat : Int)), .int .u8 ((xd.ip.b5.toNat : Int)), .int .u8 ((xd.ip.b6.toNat : Int)), .int .u8 ((xd.ip.b7.toNat : Int)), .int .u8 ((xd.ip.b8.toNat : Int)), .int .u8 ((xd.ip.b9.toNat : Int)), .int .u8 ((xd.ip.b10.toNat : Int)), .int .u8 ((xd.ip.b11.toNat : Int)), .int .u8 ((xd.ip.b12.toNat : Int)), .int .u8 ((xd.ip.b13.toNat : Int)), .int .u8 ((xd.ip.b14.toNat : Int)), .int .u8 ((xd.ip.b15.toNat : Int)), .int .i64 (xd.port)] 68 (0, 0)), .blk b1 (.cells #[.bool xc.ip.six, .int .u8 ((xc.ip.b0.toNat : Int)), .int .u8 ((xc.ip.b1.toNat : Int)), .int .u8 ((xc.ip.b2.toNat : Int)), .int .u8 ((xc.ip.b3.toNat : Int)), .int .u8 ((xc.ip.b4.toNat : Int)), .int .u8 ((xc.ip.b5.toNat : Int)), .int .u8 ((xc.ip.b6.toNat : Int)), .int .u8 ((xc.ip.b7.toNat : Int)), .int .u8 ((xc.ip.b8.toNat : Int)), .int .u8 ((xc.ip.b9.toNat : Int)), .int .u8 ((xc.ip.b10.toNat : Int)), .int .u8 ((xc.ip.b11.toNat : Int)), .int .u8 ((xc.ip.b12.toNat : Int)), .int .u8 ((xc.ip.b13.toNat : Int)), .int .u8 ((xc.ip.b14.toNat : Int)), .int .u8 ((xc.ip.b15.toNat : Int)), .int .i64 (xc.port)] 68 (0, 0))] Wx) (by kernel_rfl) ?_
      replace hO := hO.drewN 1
      generalize hWd : ({ W16 with drawn := W16.drawn + 1 } : World) = W16_d at hO ⊢; clear hWd
      refine Tk 0 hF (errV ea 0) (fun Wx _ => by kernel_rfl) (hO.sub (.cons_cons _ (.cons_cons _ (.cons_cons _ (.cons_cons _ (List.nil_sublist _)))))) ?_; clear hF; intro a hF
      refine Tk 1 hF (.bool false) (fun Wx _ => by kernel_rfl) (hO.sub (.cons_cons _ (.cons_cons _ (.cons_cons _ (.cons_cons _ (List.nil_sublist _)))))) ?_; clear hF; intro a hF
      refine Tk 2 hF (.bool false) (fun Wx _ => by kernel_rfl) (hO.sub (.cons_cons _ (.cons_cons _ (.cons_cons _ (.cons_cons _ (List.nil_sublist _)))))) ?_; clear hF; intro a hF
      refine To 3 hF (hO.sub (.cons_cons _ (.cons_cons _ (.cons_cons _ (.cons_cons _ (List.nil_sublist _)))))) ?_; clear hF; intro a hF
      refine To 4 hF (hO.sub (.cons_cons _ (.cons_cons _ (.cons_cons _ (.cons_cons _ (List.nil_sublist _)))))) ?_; clear hF; intro a hF
      refine To 5 hF (hO.sub (.cons_cons _ (.cons_cons _ (.cons_cons _ (.cons_cons _ (List.nil_sublist _)))))) ?_; clear hF; intro a hF
      refine To 6 hF (hO.sub (.cons_cons _ (.cons_cons _ (.cons_cons _ (.cons_cons _ (List.nil_sublist _)))))) ?_; clear hF; intro a hF
      refine To 7 hF (hO.sub (.cons_cons _ (.cons_cons _ (.cons_cons _ (.cons_cons _ (List.nil_sublist _)))))) ?_; clear hF; intro a hF
      refine To 8 hF (hO.sub (.cons_cons _ (.cons_cons _ (.cons_cons _ (.cons_cons _ (List.nil_sublist _)))))) ?_; clear hF; intro a hF
      refine To 9 hF (hO.sub (.cons_cons _ (.cons_cons _ (.cons_cons _ (.cons_cons _ (List.nil_sublist _)))))) ?_; clear hF; intro a hF
      refine To 10 hF (hO.sub (.cons_cons _ (.cons_cons _ (.cons_cons _ (.cons_cons _ (List.nil_sublist _)))))) ?_; clear hF; intro a hF
      refine To 11 hF (hO.sub (.cons_cons _ (.cons_cons _ (.cons_cons _ (.cons_cons _ (List.nil_sublist _)))))) ?_; clear hF; intro a hF
      refine Tk 12 hF (.bool false) (fun Wx _ => by kernel_rfl) (hO.sub (.cons_cons _ (.cons_cons _ (.cons_cons _ (.cons_cons _ (List.nil_sublist _)))))) ?_; clear hF; intro a hF
      refine Tk 13 hF (.bool false) (fun Wx _ => by kernel_rfl) (hO.sub (.cons_cons _ (.cons_cons _ (.cons_cons _ (.cons_cons _ (List.nil_sublist _)))))) ?_; clear hF; intro a hF
      refine To 14 hF (hO.sub (.cons_cons _ (.cons_cons _ (.cons_cons _ (.cons_cons _ (List.nil_sublist _)))))) ?_; clear hF; intro a hF
      refine To 15 hF (hO.sub (.cons_cons _ (.cons_cons _ (.cons_cons _ (.cons_cons _ (List.nil_sublist _)))))) ?_; clear hF; intro a hF
      refine To 16 hF (hO.sub (.cons_cons _ (.cons_cons _ (.cons_cons _ (.cons_cons _ (List.nil_sublist _)))))) ?_; clear hF; intro a hF
      refine Tk 17 hF (.bool false) (fun Wx _ => by kernel_rfl) (hO.sub (.cons_cons _ (.cons_cons _ (.cons_cons _ (.cons_cons _ (List.nil_sublist _)))))) ?_; clear hF; intro a hF
      refine Tk 18 hF (.bool false) (fun Wx _ => by kernel_rfl) (hO.sub (.cons_cons _ (.cons_cons _ (.cons_cons _ (.cons_cons _ (List.nil_sublist _)))))) ?_; clear hF; intro a hF
      refine A_done (by kernel_rfl) ?_
      refine hK13 _ _ ?_
      refine wp_ret ?_
      -- way 3: rightIp xa; ¬ xc.port < 0; ¬ xc.port > (widthIp xa)
      refine ret1 hF (v := .bool false) rfl (resT (by kernel_rfl)) (by refine ⟨?_, hO.nil⟩; first | rfl | (exfalso; omega) | exact congrArg Value.bool (cont_of hr hf) | (exfalso; have hc := cont_of hr hf; have hq : contCd ⟨cutIp xa xc.port, xc.port⟩ xa = false := (by assumption); rw [hc] at hq; cases hq)) .ret (.inl rfl)

set_option maxRecDepth 20000 in
theorem law03_CidrContains2 (I : List Nat) (ea : Nat → Addr) (xc xd : Pt) (xa : Ip) (W : World) (hG : LibW W) (hE : Errs I ea W) (h3 : I.contains 3 = true) (h0 : I.contains 0 = true) (h7 : I.contains 7 = true) (hI : I = errIs) (hr : rightIp xa = true) (hf : fitsIp xa xc.port = true) : Ret Tryz.prog 10 #[ptV xc, ptV xd, ipV xa] W fun v W' => v = .bool true ∧ Own W noX [] W' := by
  have hw := width_le xa
  have hn := fits_iff.1 hf
  refine enter Tryz.func10 rfl (n := 90) rfl (by kernel_rfl) (E0 := [(2, ipV xa), (1, ptV xd), (0, ptV xc)]) (by kernel_rfl) ?_
  intro a hF; have hO := Own.start W noX
  refine wp_seq_k fun K1 hK1 => ?_
  refine wp_region_lit ?_
  refine L_new hF hO (by kernel_rfl) (by kernel_rfl) (vf := fun b => .pointer (some ⟨b, 0, none⟩)) (ob := .cells #[.bool xc.ip.six, .int .u8 ((xc.ip.b0.toNat : Int)), .int .u8 ((xc.ip.b1.toNat : Int)), .int .u8 ((xc.ip.b2.toNat : Int)), .int .u8 ((xc.ip.b3.toNat : Int)), .int .u8 ((xc.ip.b4.toNat : Int)), .int .u8 ((xc.ip.b5.toNat : Int)), .int .u8 ((xc.ip.b6.toNat : Int)), .int .u8 ((xc.ip.b7.toNat : Int)), .int .u8 ((xc.ip.b8.toNat : Int)), .int .u8 ((xc.ip.b9.toNat : Int)), .int .u8 ((xc.ip.b10.toNat : Int)), .int .u8 ((xc.ip.b11.toNat : Int)), .int .u8 ((xc.ip.b12.toNat : Int)), .int .u8 ((xc.ip.b13.toNat : Int)), .int .u8 ((xc.ip.b14.toNat : Int)), .int .u8 ((xc.ip.b15.toNat : Int)), .int .i64 (xc.port)] 68) (by kernel_rfl) (by kernel_rfl) ?_
  clear hF hO; intro b1 W1 a hO hF
  refine L_new hF hO (by kernel_rfl) (by kernel_rfl) (vf := fun b => .pointer (some ⟨b, 0, none⟩)) (ob := .cells #[.bool xd.ip.six, .int .u8 ((xd.ip.b0.toNat : Int)), .int .u8 ((xd.ip.b1.toNat : Int)), .int .u8 ((xd.ip.b2.toNat : Int)), .int .u8 ((xd.ip.b3.toNat : Int)), .int .u8 ((xd.ip.b4.toNat : Int)), .int .u8 ((xd.ip.b5.toNat : Int)), .int .u8 ((xd.ip.b6.toNat : Int)), .int .u8 ((xd.ip.b7.toNat : Int)), .int .u8 ((xd.ip.b8.toNat : Int)), .int .u8 ((xd.ip.b9.toNat : Int)), .int .u8 ((xd.ip.b10.toNat : Int)), .int .u8 ((xd.ip.b11.toNat : Int)), .int .u8 ((xd.ip.b12.toNat : Int)), .int .u8 ((xd.ip.b13.toNat : Int)), .int .u8 ((xd.ip.b14.toNat : Int)), .int .u8 ((xd.ip.b15.toNat : Int)), .int .i64 (xd.port)] 68) (by kernel_rfl) (by kernel_rfl) ?_
  clear hF hO; intro b2 W2 a hO hF
  refine L_new hF hO (by kernel_rfl) (by kernel_rfl) (vf := fun b => .pointer (some ⟨b, 0, none⟩)) (ob := .cells #[.bool xa.six, .int .u8 ((xa.b0.toNat : Int)), .int .u8 ((xa.b1.toNat : Int)), .int .u8 ((xa.b2.toNat : Int)), .int .u8 ((xa.b3.toNat : Int)), .int .u8 ((xa.b4.toNat : Int)), .int .u8 ((xa.b5.toNat : Int)), .int .u8 ((xa.b6.toNat : Int)), .int .u8 ((xa.b7.toNat : Int)), .int .u8 ((xa.b8.toNat : Int)), .int .u8 ((xa.b9.toNat : Int)), .int .u8 ((xa.b10.toNat : Int)), .int .u8 ((xa.b11.toNat : Int)), .int .u8 ((xa.b12.toNat : Int)), .int .u8 ((xa.b13.toNat : Int)), .int .u8 ((xa.b14.toNat : Int)), .int .u8 ((xa.b15.toNat : Int))] 33) (by kernel_rfl) (by kernel_rfl) ?_
  clear hF hO; intro b3 W3 a hO hF
  refine Vp hF (.bool false) ?_; clear hF; intro a hF
  refine L_nil ?_
  refine hK1 _ _ ?_
  refine wp_seq_k fun K2 hK2 => ?_
  refine wp_seq_k fun K3 hK3 => ?_
  refine wp_region_lit ?_
  refine Lc hF (law03_alive I ea W3 (hG.own hO) (hE.own hO) h3 h0 h7) ?_
  clear hF; rintro _ W4 a ⟨rfl, hk⟩ hF
  replace hO := hO.call0 hk; clear hk
  refine Vp hF (.bool false) ?_; clear hF; intro a hF
  refine L_nil ?_
  refine hK3 _ _ ?_
  refine cond_f hF (by kernel_rfl) (by kernel_rfl) ?_
  refine wp_skip ?_
  refine hK2 _ _ ?_
  refine wp_seq_k fun K4 hK4 => ?_
  refine wp_seq_k fun K5 hK5 => ?_
  refine A_start (fun Wx => Own W noX [.blk b3 (.cells #[.bool xa.six, .int .u8 ((xa.b0.toNat : Int)), .int .u8 ((xa.b1.toNat : Int)), .int .u8 ((xa.b2.toNat : Int)), .int .u8 ((xa.b3.toNat : Int)), .int .u8 ((xa.b4.toNat : Int)), .int .u8 ((xa.b5.toNat : Int)), .int .u8 ((xa.b6.toNat : Int)), .int .u8 ((xa.b7.toNat : Int)), .int .u8 ((xa.b8.toNat : Int)), .int .u8 ((xa.b9.toNat : Int)), .int .u8 ((xa.b10.toNat : Int)), .int .u8 ((xa.b11.toNat : Int)), .int .u8 ((xa.b12.toNat : Int)), .int .u8 ((xa.b13.toNat : Int)), .int .u8 ((xa.b14.toNat : Int)), .int .u8 ((xa.b15.toNat : Int))] 33 (0, 0)), .blk b2 (.cells #[.bool xd.ip.six, .int .u8 ((xd.ip.b0.toNat : Int)), .int .u8 ((xd.ip.b1.toNat : Int)), .int .u8 ((xd.ip.b2.toNat : Int)), .int .u8 ((xd.ip.b3.toNat : Int)), .int .u8 ((xd.ip.b4.toNat : Int)), .int .u8 ((xd.ip.b5.toNat : Int)), .int .u8 ((xd.ip.b6.toNat : Int)), .int .u8 ((xd.ip.b7.toNat : Int)), .int .u8 ((xd.ip.b8.toNat : Int)), .int .u8 ((xd.ip.b9.toNat : Int)), .int .u8 ((xd.ip.b10.toNat : Int)), .int .u8 ((xd.ip.b11.toNat : Int)), .int .u8 ((xd.ip.b12.toNat : Int)), .int .u8 ((xd.ip.b13.toNat : Int)), .int .u8 ((xd.ip.b14.toNat : Int)), .int .u8 ((xd.ip.b15.toNat : Int)), .int .i64 (xd.port)] 68 (0, 0)), .blk b1 (.cells #[.bool xc.ip.six, .int .u8 ((xc.ip.b0.toNat : Int)), .int .u8 ((xc.ip.b1.toNat : Int)), .int .u8 ((xc.ip.b2.toNat : Int)), .int .u8 ((xc.ip.b3.toNat : Int)), .int .u8 ((xc.ip.b4.toNat : Int)), .int .u8 ((xc.ip.b5.toNat : Int)), .int .u8 ((xc.ip.b6.toNat : Int)), .int .u8 ((xc.ip.b7.toNat : Int)), .int .u8 ((xc.ip.b8.toNat : Int)), .int .u8 ((xc.ip.b9.toNat : Int)), .int .u8 ((xc.ip.b10.toNat : Int)), .int .u8 ((xc.ip.b11.toNat : Int)), .int .u8 ((xc.ip.b12.toNat : Int)), .int .u8 ((xc.ip.b13.toNat : Int)), .int .u8 ((xc.ip.b14.toNat : Int)), .int .u8 ((xc.ip.b15.toNat : Int)), .int .i64 (xc.port)] 68 (0, 0))] Wx) (by kernel_rfl) ?_
  replace hO := hO.drewN 1
  generalize hWd : ({ W4 with drawn := W4.drawn + 1 } : World) = W4_d at hO ⊢; clear hWd
  refine Tk 0 hF (.agg #[.bool xc.ip.six, .int .u8 ((xc.ip.b0.toNat : Int)), .int .u8 ((xc.ip.b1.toNat : Int)), .int .u8 ((xc.ip.b2.toNat : Int)), .int .u8 ((xc.ip.b3.toNat : Int)), .int .u8 ((xc.ip.b4.toNat : Int)), .int .u8 ((xc.ip.b5.toNat : Int)), .int .u8 ((xc.ip.b6.toNat : Int)), .int .u8 ((xc.ip.b7.toNat : Int)), .int .u8 ((xc.ip.b8.toNat : Int)), .int .u8 ((xc.ip.b9.toNat : Int)), .int .u8 ((xc.ip.b10.toNat : Int)), .int .u8 ((xc.ip.b11.toNat : Int)), .int .u8 ((xc.ip.b12.toNat : Int)), .int .u8 ((xc.ip.b13.toNat : Int)), .int .u8 ((xc.ip.b14.toNat : Int)), .int .u8 ((xc.ip.b15.toNat : Int)), .int .i64 (xc.port)]) (fun Wx hO => x_load (p := .pointer (some ⟨b1, 0, none⟩)) rfl (by kernel_rfl) (run_loadA (k := 18) (by kernel_rfl) (by kernel_rfl) (hO.blk (List.mem_cons_of_mem _ (List.mem_cons_of_mem _ List.mem_cons_self))) (by kernel_rfl) (by kernel_rfl))) (hO.sub (.cons_cons _ (.cons_cons _ (.cons_cons _ (List.nil_sublist _))))) ?_; clear hF; intro a hF
  refine Tk 1 hF (.agg #[.bool xa.six, .int .u8 ((xa.b0.toNat : Int)), .int .u8 ((xa.b1.toNat : Int)), .int .u8 ((xa.b2.toNat : Int)), .int .u8 ((xa.b3.toNat : Int)), .int .u8 ((xa.b4.toNat : Int)), .int .u8 ((xa.b5.toNat : Int)), .int .u8 ((xa.b6.toNat : Int)), .int .u8 ((xa.b7.toNat : Int)), .int .u8 ((xa.b8.toNat : Int)), .int .u8 ((xa.b9.toNat : Int)), .int .u8 ((xa.b10.toNat : Int)), .int .u8 ((xa.b11.toNat : Int)), .int .u8 ((xa.b12.toNat : Int)), .int .u8 ((xa.b13.toNat : Int)), .int .u8 ((xa.b14.toNat : Int)), .int .u8 ((xa.b15.toNat : Int))]) (fun Wx hO => x_load (p := .pointer (some ⟨b3, 0, none⟩)) rfl (by kernel_rfl) (run_loadA (k := 17) (by kernel_rfl) (by kernel_rfl) (hO.blk List.mem_cons_self) (by kernel_rfl) (by kernel_rfl))) (hO.sub (.cons_cons _ (.cons_cons _ (.cons_cons _ (List.nil_sublist _))))) ?_; clear hF; intro a hF
  refine Tk 3 hF (.agg #[.bool xc.ip.six, .int .u8 ((xc.ip.b0.toNat : Int)), .int .u8 ((xc.ip.b1.toNat : Int)), .int .u8 ((xc.ip.b2.toNat : Int)), .int .u8 ((xc.ip.b3.toNat : Int)), .int .u8 ((xc.ip.b4.toNat : Int)), .int .u8 ((xc.ip.b5.toNat : Int)), .int .u8 ((xc.ip.b6.toNat : Int)), .int .u8 ((xc.ip.b7.toNat : Int)), .int .u8 ((xc.ip.b8.toNat : Int)), .int .u8 ((xc.ip.b9.toNat : Int)), .int .u8 ((xc.ip.b10.toNat : Int)), .int .u8 ((xc.ip.b11.toNat : Int)), .int .u8 ((xc.ip.b12.toNat : Int)), .int .u8 ((xc.ip.b13.toNat : Int)), .int .u8 ((xc.ip.b14.toNat : Int)), .int .u8 ((xc.ip.b15.toNat : Int)), .int .i64 (xc.port)]) (fun Wx hO => x_load (p := .pointer (some ⟨b1, 0, none⟩)) rfl (by kernel_rfl) (run_loadA (k := 18) (by kernel_rfl) (by kernel_rfl) (hO.blk (List.mem_cons_of_mem _ (List.mem_cons_of_mem _ List.mem_cons_self))) (by kernel_rfl) (by kernel_rfl))) (hO.sub (.cons_cons _ (.cons_cons _ (.cons_cons _ (List.nil_sublist _))))) ?_; clear hF; intro a hF
  refine Tk 4 hF (.agg #[.bool xa.six, .int .u8 ((xa.b0.toNat : Int)), .int .u8 ((xa.b1.toNat : Int)), .int .u8 ((xa.b2.toNat : Int)), .int .u8 ((xa.b3.toNat : Int)), .int .u8 ((xa.b4.toNat : Int)), .int .u8 ((xa.b5.toNat : Int)), .int .u8 ((xa.b6.toNat : Int)), .int .u8 ((xa.b7.toNat : Int)), .int .u8 ((xa.b8.toNat : Int)), .int .u8 ((xa.b9.toNat : Int)), .int .u8 ((xa.b10.toNat : Int)), .int .u8 ((xa.b11.toNat : Int)), .int .u8 ((xa.b12.toNat : Int)), .int .u8 ((xa.b13.toNat : Int)), .int .u8 ((xa.b14.toNat : Int)), .int .u8 ((xa.b15.toNat : Int))]) (fun Wx hO => x_load (p := .pointer (some ⟨b3, 0, none⟩)) rfl (by kernel_rfl) (run_loadA (k := 17) (by kernel_rfl) (by kernel_rfl) (hO.blk List.mem_cons_self) (by kernel_rfl) (by kernel_rfl))) (hO.sub (.cons_cons _ (.cons_cons _ (.cons_cons _ (List.nil_sublist _))))) ?_; clear hF; intro a hF
  refine A_one (i := 2) (listed' := #[true, true, true, true, true, false, false, false, false, false, false, false, false, false, false, false, false, false, false, false, false, false, false, false, false]) (by kernel_rfl) rfl (by kernel_rfl) ?_
  refine OpK.lc hF (cidr_Contains xc xa W4_d) ?_
  clear hF; rintro _ W5 a ⟨rfl, hk⟩ hF
  replace hO := hO.call0 hk; clear hk
  refine ⟨hO.sub (.cons_cons _ (.cons_cons _ (.cons_cons _ (List.nil_sublist _)))), ?_⟩
  refine A_one (i := 5) (listed' := #[true, true, true, true, true, true, false, false, false, false, false, false, false, false, false, false, false, false, false, false, false, false, false, false, false]) (by kernel_rfl) rfl (by kernel_rfl) ?_
  refine OpK.lc hF (ref03_Contains xc xa W5) ?_
  clear hF; rintro _ W6 a ⟨rfl, hk⟩ hF
  replace hO := hO.call0 hk; clear hk
  refine ⟨hO.sub (.cons_cons _ (.cons_cons _ (.cons_cons _ (List.nil_sublist _)))), ?_⟩
  refine Tk 6 hF (.bool false) (fun Wx _ => (x_bool (x := !((contCd xc xa) == (contCd xc xa))) (notF (beq_self_eq_true _)) (by kernel_rfl))) (hO.sub (.cons_cons _ (.cons_cons _ (.cons_cons _ (List.nil_sublist _))))) ?_; clear hF; intro a hF
  refine Tk 7 hF (.bool false) (fun Wx _ => by kernel_rfl) (hO.sub (.cons_cons _ (.cons_cons _ (.cons_cons _ (List.nil_sublist _))))) ?_; clear hF; intro a hF
  refine Tk 8 hF (.agg #[.bool xc.ip.six, .int .u8 ((xc.ip.b0.toNat : Int)), .int .u8 ((xc.ip.b1.toNat : Int)), .int .u8 ((xc.ip.b2.toNat : Int)), .int .u8 ((xc.ip.b3.toNat : Int)), .int .u8 ((xc.ip.b4.toNat : Int)), .int .u8 ((xc.ip.b5.toNat : Int)), .int .u8 ((xc.ip.b6.toNat : Int)), .int .u8 ((xc.ip.b7.toNat : Int)), .int .u8 ((xc.ip.b8.toNat : Int)), .int .u8 ((xc.ip.b9.toNat : Int)), .int .u8 ((xc.ip.b10.toNat : Int)), .int .u8 ((xc.ip.b11.toNat : Int)), .int .u8 ((xc.ip.b12.toNat : Int)), .int .u8 ((xc.ip.b13.toNat : Int)), .int .u8 ((xc.ip.b14.toNat : Int)), .int .u8 ((xc.ip.b15.toNat : Int)), .int .i64 (xc.port)]) (fun Wx hO => x_load (p := .pointer (some ⟨b1, 0, none⟩)) rfl (by kernel_rfl) (run_loadA (k := 18) (by kernel_rfl) (by kernel_rfl) (hO.blk (List.mem_cons_of_mem _ (List.mem_cons_of_mem _ List.mem_cons_self))) (by kernel_rfl) (by kernel_rfl))) (hO.sub (.cons_cons _ (.cons_cons _ (.cons_cons _ (List.nil_sublist _))))) ?_; clear hF; intro a hF
  refine Tk 9 hF (.agg #[.bool xd.ip.six, .int .u8 ((xd.ip.b0.toNat : Int)), .int .u8 ((xd.ip.b1.toNat : Int)), .int .u8 ((xd.ip.b2.toNat : Int)), .int .u8 ((xd.ip.b3.toNat : Int)), .int .u8 ((xd.ip.b4.toNat : Int)), .int .u8 ((xd.ip.b5.toNat : Int)), .int .u8 ((xd.ip.b6.toNat : Int)), .int .u8 ((xd.ip.b7.toNat : Int)), .int .u8 ((xd.ip.b8.toNat : Int)), .int .u8 ((xd.ip.b9.toNat : Int)), .int .u8 ((xd.ip.b10.toNat : Int)), .int .u8 ((xd.ip.b11.toNat : Int)), .int .u8 ((xd.ip.b12.toNat : Int)), .int .u8 ((xd.ip.b13.toNat : Int)), .int .u8 ((xd.ip.b14.toNat : Int)), .int .u8 ((xd.ip.b15.toNat : Int)), .int .i64 (xd.port)]) (fun Wx hO => x_load (p := .pointer (some ⟨b2, 0, none⟩)) rfl (by kernel_rfl) (run_loadA (k := 18) (by kernel_rfl) (by kernel_rfl) (hO.blk (List.mem_cons_of_mem _ List.mem_cons_self)) (by kernel_rfl) (by kernel_rfl))) (hO.sub (.cons_cons _ (.cons_cons _ (.cons_cons _ (List.nil_sublist _))))) ?_; clear hF; intro a hF
  refine Tk 11 hF (.agg #[.bool xc.ip.six, .int .u8 ((xc.ip.b0.toNat : Int)), .int .u8 ((xc.ip.b1.toNat : Int)), .int .u8 ((xc.ip.b2.toNat : Int)), .int .u8 ((xc.ip.b3.toNat : Int)), .int .u8 ((xc.ip.b4.toNat : Int)), .int .u8 ((xc.ip.b5.toNat : Int)), .int .u8 ((xc.ip.b6.toNat : Int)), .int .u8 ((xc.ip.b7.toNat : Int)), .int .u8 ((xc.ip.b8.toNat : Int)), .int .u8 ((xc.ip.b9.toNat : Int)), .int .u8 ((xc.ip.b10.toNat : Int)), .int .u8 ((xc.ip.b11.toNat : Int)), .int .u8 ((xc.ip.b12.toNat : Int)), .int .u8 ((xc.ip.b13.toNat : Int)), .int .u8 ((xc.ip.b14.toNat : Int)), .int .u8 ((xc.ip.b15.toNat : Int)), .int .i64 (xc.port)]) (fun Wx hO => x_load (p := .pointer (some ⟨b1, 0, none⟩)) rfl (by kernel_rfl) (run_loadA (k := 18) (by kernel_rfl) (by kernel_rfl) (hO.blk (List.mem_cons_of_mem _ (List.mem_cons_of_mem _ List.mem_cons_self))) (by kernel_rfl) (by kernel_rfl))) (hO.sub (.cons_cons _ (.cons_cons _ (.cons_cons _ (List.nil_sublist _))))) ?_; clear hF; intro a hF
  refine Tk 12 hF (.agg #[.bool xd.ip.six, .int .u8 ((xd.ip.b0.toNat : Int)), .int .u8 ((xd.ip.b1.toNat : Int)), .int .u8 ((xd.ip.b2.toNat : Int)), .int .u8 ((xd.ip.b3.toNat : Int)), .int .u8 ((xd.ip.b4.toNat : Int)), .int .u8 ((xd.ip.b5.toNat : Int)), .int .u8 ((xd.ip.b6.toNat : Int)), .int .u8 ((xd.ip.b7.toNat : Int)), .int .u8 ((xd.ip.b8.toNat : Int)), .int .u8 ((xd.ip.b9.toNat : Int)), .int .u8 ((xd.ip.b10.toNat : Int)), .int .u8 ((xd.ip.b11.toNat : Int)), .int .u8 ((xd.ip.b12.toNat : Int)), .int .u8 ((xd.ip.b13.toNat : Int)), .int .u8 ((xd.ip.b14.toNat : Int)), .int .u8 ((xd.ip.b15.toNat : Int)), .int .i64 (xd.port)]) (fun Wx hO => x_load (p := .pointer (some ⟨b2, 0, none⟩)) rfl (by kernel_rfl) (run_loadA (k := 18) (by kernel_rfl) (by kernel_rfl) (hO.blk (List.mem_cons_of_mem _ List.mem_cons_self)) (by kernel_rfl) (by kernel_rfl))) (hO.sub (.cons_cons _ (.cons_cons _ (.cons_cons _ (List.nil_sublist _))))) ?_; clear hF; intro a hF
  refine A_one (i := 10) (listed' := #[true, true, true, true, true, true, true, true, true, true, true, true, true, false, false, false, false, false, false, false, false, false, false, false, false]) (by kernel_rfl) rfl (by kernel_rfl) ?_
  refine OpK.lc hF (cidr_Covers xc xd W6) ?_
  clear hF; rintro _ W7 a ⟨rfl, hk⟩ hF
  replace hO := hO.call0 hk; clear hk
  refine ⟨hO.sub (.cons_cons _ (.cons_cons _ (.cons_cons _ (List.nil_sublist _)))), ?_⟩
  refine A_one (i := 13) (listed' := #[true, true, true, true, true, true, true, true, true, true, true, true, true, true, false, false, false, false, false, false, false, false, false, false, false]) (by kernel_rfl) rfl (by kernel_rfl) ?_
  refine OpK.lc hF (ref03_Covers xc xd W7) ?_
  clear hF; rintro _ W8 a ⟨rfl, hk⟩ hF
  replace hO := hO.call0 hk; clear hk
  refine ⟨hO.sub (.cons_cons _ (.cons_cons _ (.cons_cons _ (List.nil_sublist _)))), ?_⟩
  refine Tk 14 hF (.bool false) (fun Wx _ => (x_bool (x := !((covCd xc xd) == (covCd xc xd))) (notF (beq_self_eq_true _)) (by kernel_rfl))) (hO.sub (.cons_cons _ (.cons_cons _ (.cons_cons _ (List.nil_sublist _))))) ?_; clear hF; intro a hF
  refine Tk 15 hF (.bool false) (fun Wx _ => by kernel_rfl) (hO.sub (.cons_cons _ (.cons_cons _ (.cons_cons _ (List.nil_sublist _))))) ?_; clear hF; intro a hF
  refine Tk 16 hF (.bool false) (fun Wx _ => by kernel_rfl) (hO.sub (.cons_cons _ (.cons_cons _ (.cons_cons _ (List.nil_sublist _))))) ?_; clear hF; intro a hF
  refine Tk 17 hF (.agg #[.bool xc.ip.six, .int .u8 ((xc.ip.b0.toNat : Int)), .int .u8 ((xc.ip.b1.toNat : Int)), .int .u8 ((xc.ip.b2.toNat : Int)), .int .u8 ((xc.ip.b3.toNat : Int)), .int .u8 ((xc.ip.b4.toNat : Int)), .int .u8 ((xc.ip.b5.toNat : Int)), .int .u8 ((xc.ip.b6.toNat : Int)), .int .u8 ((xc.ip.b7.toNat : Int)), .int .u8 ((xc.ip.b8.toNat : Int)), .int .u8 ((xc.ip.b9.toNat : Int)), .int .u8 ((xc.ip.b10.toNat : Int)), .int .u8 ((xc.ip.b11.toNat : Int)), .int .u8 ((xc.ip.b12.toNat : Int)), .int .u8 ((xc.ip.b13.toNat : Int)), .int .u8 ((xc.ip.b14.toNat : Int)), .int .u8 ((xc.ip.b15.toNat : Int)), .int .i64 (xc.port)]) (fun Wx hO => x_load (p := .pointer (some ⟨b1, 0, none⟩)) rfl (by kernel_rfl) (run_loadA (k := 18) (by kernel_rfl) (by kernel_rfl) (hO.blk (List.mem_cons_of_mem _ (List.mem_cons_of_mem _ List.mem_cons_self))) (by kernel_rfl) (by kernel_rfl))) (hO.sub (.cons_cons _ (.cons_cons _ (.cons_cons _ (List.nil_sublist _))))) ?_; clear hF; intro a hF
  refine Tk 18 hF (.agg #[.bool xd.ip.six, .int .u8 ((xd.ip.b0.toNat : Int)), .int .u8 ((xd.ip.b1.toNat : Int)), .int .u8 ((xd.ip.b2.toNat : Int)), .int .u8 ((xd.ip.b3.toNat : Int)), .int .u8 ((xd.ip.b4.toNat : Int)), .int .u8 ((xd.ip.b5.toNat : Int)), .int .u8 ((xd.ip.b6.toNat : Int)), .int .u8 ((xd.ip.b7.toNat : Int)), .int .u8 ((xd.ip.b8.toNat : Int)), .int .u8 ((xd.ip.b9.toNat : Int)), .int .u8 ((xd.ip.b10.toNat : Int)), .int .u8 ((xd.ip.b11.toNat : Int)), .int .u8 ((xd.ip.b12.toNat : Int)), .int .u8 ((xd.ip.b13.toNat : Int)), .int .u8 ((xd.ip.b14.toNat : Int)), .int .u8 ((xd.ip.b15.toNat : Int)), .int .i64 (xd.port)]) (fun Wx hO => x_load (p := .pointer (some ⟨b2, 0, none⟩)) rfl (by kernel_rfl) (run_loadA (k := 18) (by kernel_rfl) (by kernel_rfl) (hO.blk (List.mem_cons_of_mem _ List.mem_cons_self)) (by kernel_rfl) (by kernel_rfl))) (hO.sub (.cons_cons _ (.cons_cons _ (.cons_cons _ (List.nil_sublist _))))) ?_; clear hF; intro a hF
  refine Tk 20 hF (.agg #[.bool xc.ip.six, .int .u8 ((xc.ip.b0.toNat : Int)), .int .u8 ((xc.ip.b1.toNat : Int)), .int .u8 ((xc.ip.b2.toNat : Int)), .int .u8 ((xc.ip.b3.toNat : Int)), .int .u8 ((xc.ip.b4.toNat : Int)), .int .u8 ((xc.ip.b5.toNat : Int)), .int .u8 ((xc.ip.b6.toNat : Int)), .int .u8 ((xc.ip.b7.toNat : Int)), .int .u8 ((xc.ip.b8.toNat : Int)), .int .u8 ((xc.ip.b9.toNat : Int)), .int .u8 ((xc.ip.b10.toNat : Int)), .int .u8 ((xc.ip.b11.toNat : Int)), .int .u8 ((xc.ip.b12.toNat : Int)), .int .u8 ((xc.ip.b13.toNat : Int)), .int .u8 ((xc.ip.b14.toNat : Int)), .int .u8 ((xc.ip.b15.toNat : Int)), .int .i64 (xc.port)]) (fun Wx hO => x_load (p := .pointer (some ⟨b1, 0, none⟩)) rfl (by kernel_rfl) (run_loadA (k := 18) (by kernel_rfl) (by kernel_rfl) (hO.blk (List.mem_cons_of_mem _ (List.mem_cons_of_mem _ List.mem_cons_self))) (by kernel_rfl) (by kernel_rfl))) (hO.sub (.cons_cons _ (.cons_cons _ (.cons_cons _ (List.nil_sublist _))))) ?_; clear hF; intro a hF
  refine Tk 21 hF (.agg #[.bool xd.ip.six, .int .u8 ((xd.ip.b0.toNat : Int)), .int .u8 ((xd.ip.b1.toNat : Int)), .int .u8 ((xd.ip.b2.toNat : Int)), .int .u8 ((xd.ip.b3.toNat : Int)), .int .u8 ((xd.ip.b4.toNat : Int)), .int .u8 ((xd.ip.b5.toNat : Int)), .int .u8 ((xd.ip.b6.toNat : Int)), .int .u8 ((xd.ip.b7.toNat : Int)), .int .u8 ((xd.ip.b8.toNat : Int)), .int .u8 ((xd.ip.b9.toNat : Int)), .int .u8 ((xd.ip.b10.toNat : Int)), .int .u8 ((xd.ip.b11.toNat : Int)), .int .u8 ((xd.ip.b12.toNat : Int)), .int .u8 ((xd.ip.b13.toNat : Int)), .int .u8 ((xd.ip.b14.toNat : Int)), .int .u8 ((xd.ip.b15.toNat : Int)), .int .i64 (xd.port)]) (fun Wx hO => x_load (p := .pointer (some ⟨b2, 0, none⟩)) rfl (by kernel_rfl) (run_loadA (k := 18) (by kernel_rfl) (by kernel_rfl) (hO.blk (List.mem_cons_of_mem _ List.mem_cons_self)) (by kernel_rfl) (by kernel_rfl))) (hO.sub (.cons_cons _ (.cons_cons _ (.cons_cons _ (List.nil_sublist _))))) ?_; clear hF; intro a hF
  refine A_one (i := 19) (listed' := #[true, true, true, true, true, true, true, true, true, true, true, true, true, true, true, true, true, true, true, true, true, true, false, false, false]) (by kernel_rfl) rfl (by kernel_rfl) ?_
  refine OpK.lc hF (cidr_Compare xc xd W8) ?_
  clear hF; rintro _ W9 a ⟨rfl, hk⟩ hF
  replace hO := hO.call0 hk; clear hk
  refine ⟨hO.sub (.cons_cons _ (.cons_cons _ (.cons_cons _ (List.nil_sublist _)))), ?_⟩
  refine A_one (i := 22) (listed' := #[true, true, true, true, true, true, true, true, true, true, true, true, true, true, true, true, true, true, true, true, true, true, true, false, false]) (by kernel_rfl) rfl (by kernel_rfl) ?_
  refine OpK.lc hF (ref03_Compare xc xd W9) ?_
  clear hF; rintro _ W10 a ⟨rfl, hk⟩ hF
  replace hO := hO.call0 hk; clear hk
  refine ⟨hO.sub (.cons_cons _ (.cons_cons _ (.cons_cons _ (List.nil_sublist _)))), ?_⟩
  refine Tk 23 hF (.bool false) (fun Wx _ => (x_bool (x := !((cmpCd xc xd) == (cmpCd xc xd))) (notF (beq_self_eq_true _)) (by kernel_rfl))) (hO.sub (.cons_cons _ (.cons_cons _ (.cons_cons _ (List.nil_sublist _))))) ?_; clear hF; intro a hF
  refine Tk 24 hF (.bool false) (fun Wx _ => by kernel_rfl) (hO.sub (.cons_cons _ (.cons_cons _ (.cons_cons _ (List.nil_sublist _))))) ?_; clear hF; intro a hF
  refine A_done (by kernel_rfl) ?_
  refine hK5 _ _ ?_
  refine cond_f hF (by kernel_rfl) (by kernel_rfl) ?_
  refine wp_skip ?_
  refine hK4 _ _ ?_
  refine wp_seq_k fun K6 hK6 => ?_
  refine wp_region_lit ?_
  refine Vr hF (.agg #[.bool xa.six, .int .u8 ((xa.b0.toNat : Int)), .int .u8 ((xa.b1.toNat : Int)), .int .u8 ((xa.b2.toNat : Int)), .int .u8 ((xa.b3.toNat : Int)), .int .u8 ((xa.b4.toNat : Int)), .int .u8 ((xa.b5.toNat : Int)), .int .u8 ((xa.b6.toNat : Int)), .int .u8 ((xa.b7.toNat : Int)), .int .u8 ((xa.b8.toNat : Int)), .int .u8 ((xa.b9.toNat : Int)), .int .u8 ((xa.b10.toNat : Int)), .int .u8 ((xa.b11.toNat : Int)), .int .u8 ((xa.b12.toNat : Int)), .int .u8 ((xa.b13.toNat : Int)), .int .u8 ((xa.b14.toNat : Int)), .int .u8 ((xa.b15.toNat : Int))]) (x_load (p := .pointer (some ⟨b3, 0, none⟩)) rfl (by kernel_rfl) (run_loadA (k := 17) (by kernel_rfl) (by kernel_rfl) (hO.blk List.mem_cons_self) (by kernel_rfl) (by kernel_rfl))) ?_; clear hF; intro a hF
  refine Vp hF (.pointer (some ⟨b1, 17, none⟩)) ?_; clear hF; intro a hF
  refine Vr hF (.int .i64 (xc.port)) (x_load (p := .pointer (some ⟨b1, 17, none⟩)) rfl (by kernel_rfl) (run_load1 (by kernel_rfl) ((hO.cell (List.mem_cons_of_mem _ (List.mem_cons_of_mem _ List.mem_cons_self))).trans (by kernel_rfl)))) ?_; clear hF; intro a hF
  refine Lc hF ((cidr_Of I ea xa xc.port W10 (hG.own hO) (hE.own hO) h3 h0 h7).mono fun v W' h => (⟨by rw [h.1]; unfold ofCd; rw [if_pos hr, if_pos hf]; rfl, h.2⟩ : v = .tuple #[ptV (⟨(cutIp xa xc.port), xc.port⟩ : Pt), .nilIface] ∧ Own W10 noX [] W')) ?_
  clear hF; rintro _ W11 a ⟨rfl, hk⟩ hF
  replace hO := hO.call0 hk; clear hk
  refine Vp hF (.tuple #[ptV (⟨(cutIp xa xc.port), xc.port⟩ : Pt), .nilIface]) ?_; clear hF; intro a hF
  refine Vp hF (ptV (⟨(cutIp xa xc.port), xc.port⟩ : Pt)) ?_; clear hF; intro a hF
  refine Vp hF (.nilIface) ?_; clear hF; intro a hF
  refine L_new hF hO (by kernel_rfl) (by kernel_rfl) (vf := fun b => .pointer (some ⟨b, 0, none⟩)) (ob := .cells #[.bool false, .int .u8 0, .int .u8 0, .int .u8 0, .int .u8 0, .int .u8 0, .int .u8 0, .int .u8 0, .int .u8 0, .int .u8 0, .int .u8 0, .int .u8 0, .int .u8 0, .int .u8 0, .int .u8 0, .int .u8 0, .int .u8 0, .int .i64 0] 68) (by kernel_rfl) (by kernel_rfl) ?_
  clear hF hO; intro b4 W12 a hO hF
  obtain ⟨W13, hst, hO1⟩ := run_storeAt (P := Tryz.prog) (k := 18) (T := 68) (off := 0) (v := ptV (⟨(cutIp xa xc.port), xc.port⟩ : Pt)) (cs := #[.bool false, .int .u8 0, .int .u8 0, .int .u8 0, .int .u8 0, .int .u8 0, .int .u8 0, .int .u8 0, .int .u8 0, .int .u8 0, .int .u8 0, .int .u8 0, .int .u8 0, .int .u8 0, .int .u8 0, .int .u8 0, .int .u8 0, .int .i64 0]) (cs' := #[.bool (((⟨(cutIp xa xc.port), xc.port⟩ : Pt).ip).six), .int .u8 ((((⟨(cutIp xa xc.port), xc.port⟩ : Pt).ip).b0.toNat : Int)), .int .u8 ((((⟨(cutIp xa xc.port), xc.port⟩ : Pt).ip).b1.toNat : Int)), .int .u8 ((((⟨(cutIp xa xc.port), xc.port⟩ : Pt).ip).b2.toNat : Int)), .int .u8 ((((⟨(cutIp xa xc.port), xc.port⟩ : Pt).ip).b3.toNat : Int)), .int .u8 ((((⟨(cutIp xa xc.port), xc.port⟩ : Pt).ip).b4.toNat : Int)), .int .u8 ((((⟨(cutIp xa xc.port), xc.port⟩ : Pt).ip).b5.toNat : Int)), .int .u8 ((((⟨(cutIp xa xc.port), xc.port⟩ : Pt).ip).b6.toNat : Int)), .int .u8 ((((⟨(cutIp xa xc.port), xc.port⟩ : Pt).ip).b7.toNat : Int)), .int .u8 ((((⟨(cutIp xa xc.port), xc.port⟩ : Pt).ip).b8.toNat : Int)), .int .u8 ((((⟨(cutIp xa xc.port), xc.port⟩ : Pt).ip).b9.toNat : Int)), .int .u8 ((((⟨(cutIp xa xc.port), xc.port⟩ : Pt).ip).b10.toNat : Int)), .int .u8 ((((⟨(cutIp xa xc.port), xc.port⟩ : Pt).ip).b11.toNat : Int)), .int .u8 ((((⟨(cutIp xa xc.port), xc.port⟩ : Pt).ip).b12.toNat : Int)), .int .u8 ((((⟨(cutIp xa xc.port), xc.port⟩ : Pt).ip).b13.toNat : Int)), .int .u8 ((((⟨(cutIp xa xc.port), xc.port⟩ : Pt).ip).b14.toNat : Int)), .int .u8 ((((⟨(cutIp xa xc.port), xc.port⟩ : Pt).ip).b15.toNat : Int)), .int .i64 ((⟨(cutIp xa xc.port), xc.port⟩ : Pt).port)]) hO (by kernel_rfl) (by kernel_rfl) (by kernel_rfl) (Nat.le_of_ble_eq_true (by kernel_rfl)) (by kernel_rfl) (.head _)
  refine L_skip hF (by kernel_rfl) (by kernel_rfl) (x_store (p := .pointer (some ⟨b4, 0, none⟩)) (v := ptV (⟨(cutIp xa xc.port), xc.port⟩ : Pt)) rfl (by kernel_rfl) (by kernel_rfl) hst) (by kernel_rfl) ?_
  clear hst hF; intro a hF; replace hO := hO1; clear hO1
  refine Vp hF (.nilIface) ?_; clear hF; intro a hF
  refine L_nil ?_
  refine hK6 _ _ ?_
  refine wp_seq_k fun K7 hK7 => ?_
  refine wp_seq_k fun K8 hK8 => ?_
  refine wp_region_lit ?_
  refine Vr hF (.agg #[.bool xa.six, .int .u8 ((xa.b0.toNat : Int)), .int .u8 ((xa.b1.toNat : Int)), .int .u8 ((xa.b2.toNat : Int)), .int .u8 ((xa.b3.toNat : Int)), .int .u8 ((xa.b4.toNat : Int)), .int .u8 ((xa.b5.toNat : Int)), .int .u8 ((xa.b6.toNat : Int)), .int .u8 ((xa.b7.toNat : Int)), .int .u8 ((xa.b8.toNat : Int)), .int .u8 ((xa.b9.toNat : Int)), .int .u8 ((xa.b10.toNat : Int)), .int .u8 ((xa.b11.toNat : Int)), .int .u8 ((xa.b12.toNat : Int)), .int .u8 ((xa.b13.toNat : Int)), .int .u8 ((xa.b14.toNat : Int)), .int .u8 ((xa.b15.toNat : Int))]) (x_load (p := .pointer (some ⟨b3, 0, none⟩)) rfl (by kernel_rfl) (run_loadA (k := 17) (by kernel_rfl) (by kernel_rfl) (hO.blk (List.mem_cons_of_mem _ List.mem_cons_self)) (by kernel_rfl) (by kernel_rfl))) ?_; clear hF; intro a hF
  refine Lc hF (ref02_Right xa W13) ?_
  clear hF; rintro _ W14 a ⟨rfl, hk⟩ hF
  replace hO := hO.call0 hk; clear hk
  refine Vp hF (.bool (!(rightIp xa))) ?_; clear hF; intro a hF
  refine L_nil ?_
  refine hK8 _ _ ?_
  replace hF := hF.know (d := 45) (v' := .bool false) (by kernel_rfl) (congrArg Value.bool (notF hr))
  refine cond_f hF (by kernel_rfl) (by kernel_rfl) ?_
  refine wp_skip ?_
  refine hK7 _ _ ?_
  refine wp_seq_k fun K9 hK9 => ?_
  refine wp_seq_k fun K10 hK10 => ?_
  refine A_start (fun Wx => Own W noX [.blk b4 (.cells #[.bool (((⟨(cutIp xa xc.port), xc.port⟩ : Pt).ip).six), .int .u8 ((((⟨(cutIp xa xc.port), xc.port⟩ : Pt).ip).b0.toNat : Int)), .int .u8 ((((⟨(cutIp xa xc.port), xc.port⟩ : Pt).ip).b1.toNat : Int)), .int .u8 ((((⟨(cutIp xa xc.port), xc.port⟩ : Pt).ip).b2.toNat : Int)), .int .u8 ((((⟨(cutIp xa xc.port), xc.port⟩ : Pt).ip).b3.toNat : Int)), .int .u8 ((((⟨(cutIp xa xc.port), xc.port⟩ : Pt).ip).b4.toNat : Int)), .int .u8 ((((⟨(cutIp xa xc.port), xc.port⟩ : Pt).ip).b5.toNat : Int)), .int .u8 ((((⟨(cutIp xa xc.port), xc.port⟩ : Pt).ip).b6.toNat : Int)), .int .u8 ((((⟨(cutIp xa xc.port), xc.port⟩ : Pt).ip).b7.toNat : Int)), .int .u8 ((((⟨(cutIp xa xc.port), xc.port⟩ : Pt).ip).b8.toNat : Int)), .int .u8 ((((⟨(cutIp xa xc.port), xc.port⟩ : Pt).ip).b9.toNat : Int)), .int .u8 ((((⟨(cutIp xa xc.port), xc.port⟩ : Pt).ip).b10.toNat : Int)), .int .u8 ((((⟨(cutIp xa xc.port), xc.port⟩ : Pt).ip).b11.toNat : Int)), .int .u8 ((((⟨(cutIp xa xc.port), xc.port⟩ : Pt).ip).b12.toNat : Int)), .int .u8 ((((⟨(cutIp xa xc.port), xc.port⟩ : Pt).ip).b13.toNat : Int)), .int .u8 ((((⟨(cutIp xa xc.port), xc.port⟩ : Pt).ip).b14.toNat : Int)), .int .u8 ((((⟨(cutIp xa xc.port), xc.port⟩ : Pt).ip).b15.toNat : Int)), .int .i64 ((⟨(cutIp xa xc.port), xc.port⟩ : Pt).port)] 68 (0, 0)), .blk b3 (.cells #[.bool xa.six, .int .u8 ((xa.b0.toNat : Int)), .int .u8 ((xa.b1.toNat : Int)), .int .u8 ((xa.b2.toNat : Int)), .int .u8 ((xa.b3.toNat : Int)), .int .u8 ((xa.b4.toNat : Int)), .int .u8 ((xa.b5.toNat : Int)), .int .u8 ((xa.b6.toNat : Int)), .int .u8 ((xa.b7.toNat : Int)), .int .u8 ((xa.b8.toNat : Int)), .int .u8 ((xa.b9.toNat : Int)), .int .u8 ((xa.b10.toNat : Int)), .int .u8 ((xa.b11.toNat : Int)), .int .u8 ((xa.b12.toNat : Int)), .int .u8 ((xa.b13.toNat : Int)), .int .u8 ((xa.b14.toNat : Int)), .int .u8 ((xa.b15.toNat : Int))] 33 (0, 0)), .blk b2 (.cells #[.bool xd.ip.six, .int .u8 ((xd.ip.b0.toNat : Int)), .int .u8 ((xd.ip.b1.toNat : Int)), .int .u8 ((xd.ip.b2.toNat : Int)), .int .u8 ((xd.ip.b3.toNat : Int)), .int .u8 ((xd.ip.b4.toNat : Int)), .int .u8 ((xd.ip.b5.toNat : Int)), .int .u8 ((xd.ip.b6.toNat : Int)), .int .u8 ((xd.ip.b7.toNat : Int)), .int .u8 ((xd.ip.b8.toNat : Int)), .int .u8 ((xd.ip.b9.toNat : Int)), .int .u8 ((xd.ip.b10.toNat : Int)), .int .u8 ((xd.ip.b11.toNat : Int)), .int .u8 ((xd.ip.b12.toNat : Int)), .int .u8 ((xd.ip.b13.toNat : Int)), .int .u8 ((xd.ip.b14.toNat : Int)), .int .u8 ((xd.ip.b15.toNat : Int)), .int .i64 (xd.port)] 68 (0, 0)), .blk b1 (.cells #[.bool xc.ip.six, .int .u8 ((xc.ip.b0.toNat : Int)), .int .u8 ((xc.ip.b1.toNat : Int)), .int .u8 ((xc.ip.b2.toNat : Int)), .int .u8 ((xc.ip.b3.toNat : Int)), .int .u8 ((xc.ip.b4.toNat : Int)), .int .u8 ((xc.ip.b5.toNat : Int)), .int .u8 ((xc.ip.b6.toNat : Int)), .int .u8 ((xc.ip.b7.toNat : Int)), .int .u8 ((xc.ip.b8.toNat : Int)), .int .u8 ((xc.ip.b9.toNat : Int)), .int .u8 ((xc.ip.b10.toNat : Int)), .int .u8 ((xc.ip.b11.toNat : Int)), .int .u8 ((xc.ip.b12.toNat : Int)), .int .u8 ((xc.ip.b13.toNat : Int)), .int .u8 ((xc.ip.b14.toNat : Int)), .int .u8 ((xc.ip.b15.toNat : Int)), .int .i64 (xc.port)] 68 (0, 0))] Wx) (by kernel_rfl) ?_
  replace hO := hO.drewN 1
  generalize hWd : ({ W14 with drawn := W14.drawn + 1 } : World) = W14_d at hO ⊢; clear hWd
  refine Tk 0 hF (.pointer (some ⟨b1, 17, none⟩)) (fun Wx _ => by kernel_rfl) (hO.sub (.cons_cons _ (.cons_cons _ (.cons_cons _ (.cons_cons _ (List.nil_sublist _)))))) ?_; clear hF; intro a hF
  refine Tk 1 hF (.int .i64 (xc.port)) (fun Wx hO => x_load (p := .pointer (some ⟨b1, 17, none⟩)) rfl (by kernel_rfl) (run_load1 (by kernel_rfl) ((hO.cell (List.mem_cons_of_mem _ (List.mem_cons_of_mem _ (List.mem_cons_of_mem _ List.mem_cons_self)))).trans (by kernel_rfl)))) (hO.sub (.cons_cons _ (.cons_cons _ (.cons_cons _ (.cons_cons _ (List.nil_sublist _)))))) ?_; clear hF; intro a hF
  refine Tk 2 hF (.bool (decide (xc.port < 0))) (fun Wx _ => by kernel_rfl) (hO.sub (.cons_cons _ (.cons_cons _ (.cons_cons _ (.cons_cons _ (List.nil_sublist _)))))) ?_; clear hF; intro a hF
  refine Tk 3 hF (.bool (decide (xc.port < 0))) (fun Wx _ => by kernel_rfl) (hO.sub (.cons_cons _ (.cons_cons _ (.cons_cons _ (.cons_cons _ (List.nil_sublist _)))))) ?_; clear hF; intro a hF
  by_cases q1 : xc.port < 0
  ·
    replace hF := hF.know (d := 57) (v' := .bool true) (by kernel_rfl) (congrArg Value.bool (decide_eq_true q1))
    refine To 4 hF (hO.sub (.cons_cons _ (.cons_cons _ (.cons_cons _ (.cons_cons _ (List.nil_sublist _)))))) ?_; clear hF; intro a hF
    refine To 5 hF (hO.sub (.cons_cons _ (.cons_cons _ (.cons_cons _ (.cons_cons _ (List.nil_sublist _)))))) ?_; clear hF; intro a hF
    refine To 6 hF (hO.sub (.cons_cons _ (.cons_cons _ (.cons_cons _ (.cons_cons _ (List.nil_sublist _)))))) ?_; clear hF; intro a hF
    refine To 7 hF (hO.sub (.cons_cons _ (.cons_cons _ (.cons_cons _ (.cons_cons _ (List.nil_sublist _)))))) ?_; clear hF; intro a hF
    refine To 8 hF (hO.sub (.cons_cons _ (.cons_cons _ (.cons_cons _ (.cons_cons _ (List.nil_sublist _)))))) ?_; clear hF; intro a hF
    refine Tk 9 hF (.bool true) (fun Wx _ => by kernel_rfl) (hO.sub (.cons_cons _ (.cons_cons _ (.cons_cons _ (.cons_cons _ (List.nil_sublist _)))))) ?_; clear hF; intro a hF
    refine A_done (by kernel_rfl) ?_
    refine hK10 _ _ ?_
    refine cond_t hF (by kernel_rfl) (by kernel_rfl) ?_
    refine wp_seq_k fun K11 hK11 => ?_
    refine wp_region_lit ?_
    refine Vr hF (.agg #[.bool (((⟨(cutIp xa xc.port), xc.port⟩ : Pt).ip).six), .int .u8 ((((⟨(cutIp xa xc.port), xc.port⟩ : Pt).ip).b0.toNat : Int)), .int .u8 ((((⟨(cutIp xa xc.port), xc.port⟩ : Pt).ip).b1.toNat : Int)), .int .u8 ((((⟨(cutIp xa xc.port), xc.port⟩ : Pt).ip).b2.toNat : Int)), .int .u8 ((((⟨(cutIp xa xc.port), xc.port⟩ : Pt).ip).b3.toNat : Int)), .int .u8 ((((⟨(cutIp xa xc.port), xc.port⟩ : Pt).ip).b4.toNat : Int)), .int .u8 ((((⟨(cutIp xa xc.port), xc.port⟩ : Pt).ip).b5.toNat : Int)), .int .u8 ((((⟨(cutIp xa xc.port), xc.port⟩ : Pt).ip).b6.toNat : Int)), .int .u8 ((((⟨(cutIp xa xc.port), xc.port⟩ : Pt).ip).b7.toNat : Int)), .int .u8 ((((⟨(cutIp xa xc.port), xc.port⟩ : Pt).ip).b8.toNat : Int)), .int .u8 ((((⟨(cutIp xa xc.port), xc.port⟩ : Pt).ip).b9.toNat : Int)), .int .u8 ((((⟨(cutIp xa xc.port), xc.port⟩ : Pt).ip).b10.toNat : Int)), .int .u8 ((((⟨(cutIp xa xc.port), xc.port⟩ : Pt).ip).b11.toNat : Int)), .int .u8 ((((⟨(cutIp xa xc.port), xc.port⟩ : Pt).ip).b12.toNat : Int)), .int .u8 ((((⟨(cutIp xa xc.port), xc.port⟩ : Pt).ip).b13.toNat : Int)), .int .u8 ((((⟨(cutIp xa xc.port), xc.port⟩ : Pt).ip).b14.toNat : Int)), .int .u8 ((((⟨(cutIp xa xc.port), xc.port⟩ : Pt).ip).b15.toNat : Int)), .int .i64 ((⟨(cutIp xa xc.port), xc.port⟩ : Pt).port)]) (x_load (p := .pointer (some ⟨b4, 0, none⟩)) rfl (by kernel_rfl) (run_loadA (k := 18) (by kernel_rfl) (by kernel_rfl) (hO.blk List.mem_cons_self) (by kernel_rfl) (by kernel_rfl))) ?_; clear hF; intro a hF
    refine Vp hF (.agg #[.bool false, .int .u8 0, .int .u8 0, .int .u8 0, .int .u8 0, .int .u8 0, .int .u8 0, .int .u8 0, .int .u8 0, .int .u8 0, .int .u8 0, .int .u8 0, .int .u8 0, .int .u8 0, .int .u8 0, .int .u8 0, .int .u8 0, .int .i64 0]) ?_; clear hF; intro a hF
    refine Vr hF (.bool (decide ((⟨(cutIp xa xc.port), xc.port⟩ : Pt) = noPt))) (x_eqCd (a := (⟨(cutIp xa xc.port), xc.port⟩ : Pt)) (b := noPt) rfl (by kernel_rfl) (by kernel_rfl)) ?_; clear hF; intro a hF
    refine Vp hF (.bool (decide ((⟨(cutIp xa xc.port), xc.port⟩ : Pt) = noPt))) ?_; clear hF; intro a hF
    by_cases q2 : (⟨(cutIp xa xc.port), xc.port⟩ : Pt) = noPt
    ·
      replace hF := hF.know (d := 67) (v' := .bool true) (by kernel_rfl) (congrArg Value.bool (decide_eq_true q2))
      refine Vp hF (.nilIface) ?_; clear hF; intro a hF
      refine Lc hF (num_nil W14_d) ?_
      clear hF; rintro _ W15 a ⟨rfl, hk⟩ hF
      replace hO := hO.call0 hk; clear hk
      refine Vp hF (.bool false) ?_; clear hF; intro a hF
      refine Vp hF (.bool false) ?_; clear hF; intro a hF
      refine Vp hF (.bool false) ?_; clear hF; intro a hF
      refine L_nil ?_
      refine hK11 _ _ ?_
      refine wp_ret ?_
      refine then_ret ?_
      -- way 1: rightIp xa; xc.port < 0; (⟨(cutIp xa xc.port), xc.port⟩ : Pt) = noPt
      refine ret1 hF (v := .bool false) rfl (resT (by kernel_rfl)) (by refine ⟨?_, hO.nil⟩; first | rfl | (exfalso; omega) | exact congrArg Value.bool (cont_of hr hf) | (exfalso; have hc := cont_of hr hf; have hq : contCd ⟨cutIp xa xc.port, xc.port⟩ xa = false := (by assumption); rw [hc] at hq; cases hq)) .ret (.inl rfl)
    ·
      replace hF := hF.know (d := 67) (v' := .bool false) (by kernel_rfl) (congrArg Value.bool (decide_eq_false q2))
      refine Lo hF ?_; clear hF; intro a hF
      refine Lo hF ?_; clear hF; intro a hF
      refine Lo hF ?_; clear hF; intro a hF
      refine Vp hF (.bool false) ?_; clear hF; intro a hF
      refine Vp hF (.bool false) ?_; clear hF; intro a hF
      refine L_nil ?_
      refine hK11 _ _ ?_
      refine wp_ret ?_
      refine then_ret ?_
      -- way 2: rightIp xa; xc.port < 0; ¬ (⟨(cutIp xa xc.port), xc.port⟩ : Pt) = noPt
      refine ret1 hF (v := .bool false) rfl (resT (by kernel_rfl)) (by refine ⟨?_, hO.nil⟩; first | rfl | (exfalso; omega) | exact congrArg Value.bool (cont_of hr hf) | (exfalso; have hc := cont_of hr hf; have hq : contCd ⟨cutIp xa xc.port, xc.port⟩ xa = false := (by assumption); rw [hc] at hq; cases hq)) .ret (.inl rfl)
  ·
    replace hF := hF.know (d := 57) (v' := .bool false) (by kernel_rfl) (congrArg Value.bool (decide_eq_false q1))
    refine Tk 4 hF (.pointer (some ⟨b1, 17, none⟩)) (fun Wx _ => by kernel_rfl) (hO.sub (.cons_cons _ (.cons_cons _ (.cons_cons _ (.cons_cons _ (List.nil_sublist _)))))) ?_; clear hF; intro a hF
    refine Tk 5 hF (.int .i64 (xc.port)) (fun Wx hO => x_load (p := .pointer (some ⟨b1, 17, none⟩)) rfl (by kernel_rfl) (run_load1 (by kernel_rfl) ((hO.cell (List.mem_cons_of_mem _ (List.mem_cons_of_mem _ (List.mem_cons_of_mem _ List.mem_cons_self)))).trans (by kernel_rfl)))) (hO.sub (.cons_cons _ (.cons_cons _ (.cons_cons _ (.cons_cons _ (List.nil_sublist _)))))) ?_; clear hF; intro a hF
    refine Tk 6 hF (.agg #[.bool xa.six, .int .u8 ((xa.b0.toNat : Int)), .int .u8 ((xa.b1.toNat : Int)), .int .u8 ((xa.b2.toNat : Int)), .int .u8 ((xa.b3.toNat : Int)), .int .u8 ((xa.b4.toNat : Int)), .int .u8 ((xa.b5.toNat : Int)), .int .u8 ((xa.b6.toNat : Int)), .int .u8 ((xa.b7.toNat : Int)), .int .u8 ((xa.b8.toNat : Int)), .int .u8 ((xa.b9.toNat : Int)), .int .u8 ((xa.b10.toNat : Int)), .int .u8 ((xa.b11.toNat : Int)), .int .u8 ((xa.b12.toNat : Int)), .int .u8 ((xa.b13.toNat : Int)), .int .u8 ((xa.b14.toNat : Int)), .int .u8 ((xa.b15.toNat : Int))]) (fun Wx hO => x_load (p := .pointer (some ⟨b3, 0, none⟩)) rfl (by kernel_rfl) (run_loadA (k := 17) (by kernel_rfl) (by kernel_rfl) (hO.blk (List.mem_cons_of_mem _ List.mem_cons_self)) (by kernel_rfl) (by kernel_rfl))) (hO.sub (.cons_cons _ (.cons_cons _ (.cons_cons _ (.cons_cons _ (List.nil_sublist _)))))) ?_; clear hF; intro a hF
    refine A_one (i := 7) (listed' := #[true, true, true, true, true, true, true, true, false, false]) (by kernel_rfl) rfl (by kernel_rfl) ?_
    refine OpK.lc hF (ref03_Width xa W14_d) ?_
    clear hF; rintro _ W16 a ⟨rfl, hk⟩ hF
    replace hO := hO.call0 hk; clear hk
    refine ⟨hO.sub (.cons_cons _ (.cons_cons _ (.cons_cons _ (.cons_cons _ (List.nil_sublist _))))), ?_⟩
    refine Tk 8 hF (.bool (decide (xc.port > (widthIp xa)))) (fun Wx _ => by kernel_rfl) (hO.sub (.cons_cons _ (.cons_cons _ (.cons_cons _ (.cons_cons _ (List.nil_sublist _)))))) ?_; clear hF; intro a hF
    refine Tk 9 hF (.bool (decide (xc.port > (widthIp xa)))) (fun Wx _ => by kernel_rfl) (hO.sub (.cons_cons _ (.cons_cons _ (.cons_cons _ (.cons_cons _ (List.nil_sublist _)))))) ?_; clear hF; intro a hF
    refine A_done (by kernel_rfl) ?_
    refine hK10 _ _ ?_
    by_cases q3 : xc.port > (widthIp xa)
    ·
      replace hF := hF.know (d := 63) (v' := .bool true) (by kernel_rfl) (congrArg Value.bool (decide_eq_true q3))
      refine cond_t hF (by kernel_rfl) (by kernel_rfl) ?_
      refine wp_seq_k fun K12 hK12 => ?_
      refine wp_region_lit ?_
      refine Vr hF (.agg #[.bool (((⟨(cutIp xa xc.port), xc.port⟩ : Pt).ip).six), .int .u8 ((((⟨(cutIp xa xc.port), xc.port⟩ : Pt).ip).b0.toNat : Int)), .int .u8 ((((⟨(cutIp xa xc.port), xc.port⟩ : Pt).ip).b1.toNat : Int)), .int .u8 ((((⟨(cutIp xa xc.port), xc.port⟩ : Pt).ip).b2.toNat : Int)), .int .u8 ((((⟨(cutIp xa xc.port), xc.port⟩ : Pt).ip).b3.toNat : Int)), .int .u8 ((((⟨(cutIp xa xc.port), xc.port⟩ : Pt).ip).b4.toNat : Int)), .int .u8 ((((⟨(cutIp xa xc.port), xc.port⟩ : Pt).ip).b5.toNat : Int)), .int .u8 ((((⟨(cutIp xa xc.port), xc.port⟩ : Pt).ip).b6.toNat : Int)), .int .u8 ((((⟨(cutIp xa xc.port), xc.port⟩ : Pt).ip).b7.toNat : Int)), .int .u8 ((((⟨(cutIp xa xc.port), xc.port⟩ : Pt).ip).b8.toNat : Int)), .int .u8 ((((⟨(cutIp xa xc.port), xc.port⟩ : Pt).ip).b9.toNat : Int)), .int .u8 ((((⟨(cutIp xa xc.port), xc.port⟩ : Pt).ip).b10.toNat : Int)), .int .u8 ((((⟨(cutIp xa xc.port), xc.port⟩ : Pt).ip).b11.toNat : Int)), .int .u8 ((((⟨(cutIp xa xc.port), xc.port⟩ : Pt).ip).b12.toNat : Int)), .int .u8 ((((⟨(cutIp xa xc.port), xc.port⟩ : Pt).ip).b13.toNat : Int)), .int .u8 ((((⟨(cutIp xa xc.port), xc.port⟩ : Pt).ip).b14.toNat : Int)), .int .u8 ((((⟨(cutIp xa xc.port), xc.port⟩ : Pt).ip).b15.toNat : Int)), .int .i64 ((⟨(cutIp xa xc.port), xc.port⟩ : Pt).port)]) (x_load (p := .pointer (some ⟨b4, 0, none⟩)) rfl (by kernel_rfl) (run_loadA (k := 18) (by kernel_rfl) (by kernel_rfl) (hO.blk List.mem_cons_self) (by kernel_rfl) (by kernel_rfl))) ?_; clear hF; intro a hF
      refine Vp hF (.agg #[.bool false, .int .u8 0, .int .u8 0, .int .u8 0, .int .u8 0, .int .u8 0, .int .u8 0, .int .u8 0, .int .u8 0, .int .u8 0, .int .u8 0, .int .u8 0, .int .u8 0, .int .u8 0, .int .u8 0, .int .u8 0, .int .u8 0, .int .i64 0]) ?_; clear hF; intro a hF
      refine Vr hF (.bool (decide ((⟨(cutIp xa xc.port), xc.port⟩ : Pt) = noPt))) (x_eqCd (a := (⟨(cutIp xa xc.port), xc.port⟩ : Pt)) (b := noPt) rfl (by kernel_rfl) (by kernel_rfl)) ?_; clear hF; intro a hF
      refine Vp hF (.bool (decide ((⟨(cutIp xa xc.port), xc.port⟩ : Pt) = noPt))) ?_; clear hF; intro a hF
      by_cases q4 : (⟨(cutIp xa xc.port), xc.port⟩ : Pt) = noPt
      ·
        replace hF := hF.know (d := 67) (v' := .bool true) (by kernel_rfl) (congrArg Value.bool (decide_eq_true q4))
        refine Vp hF (.nilIface) ?_; clear hF; intro a hF
        refine Lc hF (num_nil W16) ?_
        clear hF; rintro _ W17 a ⟨rfl, hk⟩ hF
        replace hO := hO.call0 hk; clear hk
        refine Vp hF (.bool false) ?_; clear hF; intro a hF
        refine Vp hF (.bool false) ?_; clear hF; intro a hF
        refine Vp hF (.bool false) ?_; clear hF; intro a hF
        refine L_nil ?_
        refine hK12 _ _ ?_
        refine wp_ret ?_
        refine then_ret ?_
        -- way 3: rightIp xa; ¬ xc.port < 0; xc.port > (widthIp xa); (⟨(cutIp xa xc.port), xc.port⟩ : Pt) = noPt
        refine ret1 hF (v := .bool false) rfl (resT (by kernel_rfl)) (by refine ⟨?_, hO.nil⟩; first | rfl | (exfalso; omega) | exact congrArg Value.bool (cont_of hr hf) | (exfalso; have hc := cont_of hr hf; have hq : contCd ⟨cutIp xa xc.port, xc.port⟩ xa = false := (by assumption); rw [hc] at hq; cases hq)) .ret (.inl rfl)
      ·
        replace hF := hF.know (d := 67) (v' := .bool false) (by kernel_rfl) (congrArg Value.bool (decide_eq_false q4))
        refine Lo hF ?_; clear hF; intro a hF
        refine Lo hF ?_; clear hF; intro a hF
        refine Lo hF ?_; clear hF; intro a hF
        refine Vp hF (.bool false) ?_; clear hF; intro a hF
        refine Vp hF (.bool false) ?_; clear hF; intro a hF
        refine L_nil ?_
        refine hK12 _ _ ?_
        refine wp_ret ?_
        refine then_ret ?_
        -- way 4: rightIp xa; ¬ xc.port < 0; xc.port > (widthIp xa); ¬ (⟨(cutIp xa xc.port), xc.port⟩ : Pt) = noPt
        refine ret1 hF (v := .bool false) rfl (resT (by kernel_rfl)) (by refine ⟨?_, hO.nil⟩; first | rfl | (exfalso; omega) | exact congrArg Value.bool (cont_of hr hf) | (exfalso; have hc := cont_of hr hf; have hq : contCd ⟨cutIp xa xc.port, xc.port⟩ xa = false := (by assumption); rw [hc] at hq; cases hq)) .ret (.inl rfl)
    ·
      replace hF := hF.know (d := 63) (v' := .bool false) (by kernel_rfl) (congrArg Value.bool (decide_eq_false q3))
      refine cond_f hF (by kernel_rfl) (by kernel_rfl) ?_
      refine wp_skip ?_
      refine hK9 _ _ ?_
      refine wp_seq_k fun K13 hK13 => ?_
      refine A_start (fun Wx => Own W noX [.blk b4 (.cells #[.bool (((⟨(cutIp xa xc.port), xc.port⟩ : Pt).ip).six), .int .u8 ((((⟨(cutIp xa xc.port), xc.port⟩ : Pt).ip).b0.toNat : Int)), .int .u8 ((((⟨(cutIp xa xc.port), xc.port⟩ : Pt).ip).b1.toNat : Int)), .int .u8 ((((⟨(cutIp xa xc.port), xc.port⟩ : Pt).ip).b2.toNat : Int)), .int .u8 ((((⟨(cutIp xa xc.port), xc.port⟩ : Pt).ip).b3.toNat : Int)), .int .u8 ((((⟨(cutIp xa xc.port), xc.port⟩ : Pt).ip).b4.toNat : Int)), .int .u8 ((((⟨(cutIp xa xc.port), xc.port⟩ : Pt).ip).b5.toNat : Int)), .int .u8 ((((⟨(cutIp xa xc.port), xc.port⟩ : Pt).ip).b6.toNat : Int)), .int .u8 ((((⟨(cutIp xa xc.port), xc.port⟩ : Pt).ip).b7.toNat : Int)), .int .u8 ((((⟨(cutIp xa xc.port), xc.port⟩ : Pt).ip).b8.toNat : Int)), .int .u8 ((((⟨(cutIp xa xc.port), xc.port⟩ : Pt).ip).b9.toNat : Int)), .int .u8 ((((⟨(cutIp xa xc.port), xc.port⟩ : Pt).ip).b10.toNat : Int)), .int .u8 ((((⟨(cutIp xa xc.port), xc.port⟩ : Pt).ip).b11.toNat : Int)), .int .u8 ((((⟨(cutIp xa xc.port), xc.port⟩ : Pt).ip).b12.toNat : Int)), .int .u8 ((((⟨(cutIp xa xc.port), xc.port⟩ : Pt).ip).b13.toNat : Int)), .int .u8 ((((⟨(cutIp xa xc.port), xc.port⟩ : Pt).ip).b14.toNat : Int)), .int .u8 ((((⟨(cutIp xa xc.port), xc.port⟩ : Pt).ip).b15.toNat : Int)), .int .i64 ((⟨(cutIp xa xc.port), xc.port⟩ : Pt).port)] 68 (0, 0)), .blk b3 (.cells #[.bool xa.six, .int .u8 ((xa.b0.toNat : Int)), .int .u8 ((xa.b1.toNat : Int)), .int .u8 ((xa.b2.toNat : Int)), .int .u8 ((xa.b3.toNat : Int)), .int .u8 ((xa.b4.toNat : Int)), .int .u8 ((xa.b5.toNat : Int)), .int .u8 ((xa.b6.toNat : Int)), .int .u8 ((xa.b7.toNat : Int)), .int .u8 ((xa.b8.toNat : Int)), .int .u8 ((xa.b9.toNat : Int)), .int .u8 ((xa.b10.toNat : Int)), .int .u8 ((xa.b11.toNat : Int)), .int .u8 ((xa.b12.toNat : Int)), .int .u8 ((xa.b13.toNat : Int)), .int .u8 ((xa.b14.toNat : Int)), .int .u8 ((xa.b15.toNat : Int))] 33 (0, 0)), .blk b2 (.cells #[.bool xd.ip.six, .int .u8 ((xd.ip.b0.toNat : Int)), .int .u8 ((xd.ip.b1.toNat : Int)), .int .u8 ((xd.ip.b2.toNat : Int)), .int .u8 ((xd.ip.b3.toNat : Int)), .int .u8 ((xd.ip.b4.toNat : Int)), .int .u8 ((xd.ip.b5.toNat : Int)), .int .u8 ((xd.ip.b6.toNat : Int)), .int .u8 ((xd.ip.b7.toNat : Int)), .int .u8 ((xd.ip.b8.toNat : Int)), .int .u8 ((xd.ip.b9.toNat : Int)), .int .u8 ((xd.ip.b10.toNat : Int)), .int .u8 ((xd.ip.b11.toNat : Int)), .int .u8 ((xd.ip.b12.toNat : Int)), .int .u8 ((xd.ip.b13.toNat : Int)), .int .u8 ((xd.ip.b14.toNat : Int)), .int .u8 ((xd.ip.b15.toNat : Int)), .int .i64 (xd.port)] 68 (0, 0)), .blk b1 (.cells #[.bool xc.ip.six, .int .u8 ((xc.ip.b0.toNat : Int)), .int .u8 ((xc.ip.b1.toNat : Int)), .int .u8 ((xc.ip.b2.toNat : Int)), .int .u8 ((xc.ip.b3.toNat : Int)), .int .u8 ((xc.ip.b4.toNat : Int)), .int .u8 ((xc.ip.b5.toNat : Int)), .int .u8 ((xc.ip.b6.toNat : Int)), .int .u8 ((xc.ip.b7.toNat : Int)), .int .u8 ((xc.ip.b8.toNat : Int)), .int .u8 ((xc.ip.b9.toNat : Int)), .int .u8 ((xc.ip.b10.toNat : Int)), .int .u8 ((xc.ip.b11.toNat : Int)), .int .u8 ((xc.ip.b12.toNat : Int)), .int .u8 ((xc.ip.b13.toNat : Int)), .int .u8 ((xc.ip.b14.toNat : Int)), .int .u8 ((xc.ip.b15.toNat : Int)), .int .i64 (xc.port)] 68 (0, 0))] Wx) (by kernel_rfl) ?_
      replace hO := hO.drewN 1
      generalize hWd : ({ W16 with drawn := W16.drawn + 1 } : World) = W16_d at hO ⊢; clear hWd
      refine Tk 0 hF (.nilIface) (fun Wx _ => by kernel_rfl) (hO.sub (.cons_cons _ (.cons_cons _ (.cons_cons _ (.cons_cons _ (List.nil_sublist _)))))) ?_; clear hF; intro a hF
      refine Tk 1 hF (.bool true) (fun Wx _ => by kernel_rfl) (hO.sub (.cons_cons _ (.cons_cons _ (.cons_cons _ (.cons_cons _ (List.nil_sublist _)))))) ?_; clear hF; intro a hF
      refine Tk 2 hF (.bool true) (fun Wx _ => by kernel_rfl) (hO.sub (.cons_cons _ (.cons_cons _ (.cons_cons _ (.cons_cons _ (List.nil_sublist _)))))) ?_; clear hF; intro a hF
      refine Tk 3 hF (.agg #[.bool (((⟨(cutIp xa xc.port), xc.port⟩ : Pt).ip).six), .int .u8 ((((⟨(cutIp xa xc.port), xc.port⟩ : Pt).ip).b0.toNat : Int)), .int .u8 ((((⟨(cutIp xa xc.port), xc.port⟩ : Pt).ip).b1.toNat : Int)), .int .u8 ((((⟨(cutIp xa xc.port), xc.port⟩ : Pt).ip).b2.toNat : Int)), .int .u8 ((((⟨(cutIp xa xc.port), xc.port⟩ : Pt).ip).b3.toNat : Int)), .int .u8 ((((⟨(cutIp xa xc.port), xc.port⟩ : Pt).ip).b4.toNat : Int)), .int .u8 ((((⟨(cutIp xa xc.port), xc.port⟩ : Pt).ip).b5.toNat : Int)), .int .u8 ((((⟨(cutIp xa xc.port), xc.port⟩ : Pt).ip).b6.toNat : Int)), .int .u8 ((((⟨(cutIp xa xc.port), xc.port⟩ : Pt).ip).b7.toNat : Int)), .int .u8 ((((⟨(cutIp xa xc.port), xc.port⟩ : Pt).ip).b8.toNat : Int)), .int .u8 ((((⟨(cutIp xa xc.port), xc.port⟩ : Pt).ip).b9.toNat : Int)), .int .u8 ((((⟨(cutIp xa xc.port), xc.port⟩ : Pt).ip).b10.toNat : Int)), .int .u8 ((((⟨(cutIp xa xc.port), xc.port⟩ : Pt).ip).b11.toNat : Int)), .int .u8 ((((⟨(cutIp xa xc.port), xc.port⟩ : Pt).ip).b12.toNat : Int)), .int .u8 ((((⟨(cutIp xa xc.port), xc.port⟩ : Pt).ip).b13.toNat : Int)), .int .u8 ((((⟨(cutIp xa xc.port), xc.port⟩ : Pt).ip).b14.toNat : Int)), .int .u8 ((((⟨(cutIp xa xc.port), xc.port⟩ : Pt).ip).b15.toNat : Int)), .int .i64 ((⟨(cutIp xa xc.port), xc.port⟩ : Pt).port)]) (fun Wx hO => x_load (p := .pointer (some ⟨b4, 0, none⟩)) rfl (by kernel_rfl) (run_loadA (k := 18) (by kernel_rfl) (by kernel_rfl) (hO.blk List.mem_cons_self) (by kernel_rfl) (by kernel_rfl))) (hO.sub (.cons_cons _ (.cons_cons _ (.cons_cons _ (.cons_cons _ (List.nil_sublist _)))))) ?_; clear hF; intro a hF
      refine Tk 4 hF (.agg #[.bool xa.six, .int .u8 ((xa.b0.toNat : Int)), .int .u8 ((xa.b1.toNat : Int)), .int .u8 ((xa.b2.toNat : Int)), .int .u8 ((xa.b3.toNat : Int)), .int .u8 ((xa.b4.toNat : Int)), .int .u8 ((xa.b5.toNat : Int)), .int .u8 ((xa.b6.toNat : Int)), .int .u8 ((xa.b7.toNat : Int)), .int .u8 ((xa.b8.toNat : Int)), .int .u8 ((xa.b9.toNat : Int)), .int .u8 ((xa.b10.toNat : Int)), .int .u8 ((xa.b11.toNat : Int)), .int .u8 ((xa.b12.toNat : Int)), .int .u8 ((xa.b13.toNat : Int)), .int .u8 ((xa.b14.toNat : Int)), .int .u8 ((xa.b15.toNat : Int))]) (fun Wx hO => x_load (p := .pointer (some ⟨b3, 0, none⟩)) rfl (by kernel_rfl) (run_loadA (k := 17) (by kernel_rfl) (by kernel_rfl) (hO.blk (List.mem_cons_of_mem _ List.mem_cons_self)) (by kernel_rfl) (by kernel_rfl))) (hO.sub (.cons_cons _ (.cons_cons _ (.cons_cons _ (.cons_cons _ (List.nil_sublist _)))))) ?_; clear hF; intro a hF
      refine Tk 5 hF (.pointer (some ⟨b1, 17, none⟩)) (fun Wx _ => by kernel_rfl) (hO.sub (.cons_cons _ (.cons_cons _ (.cons_cons _ (.cons_cons _ (List.nil_sublist _)))))) ?_; clear hF; intro a hF
      refine Tk 6 hF (.int .i64 (xc.port)) (fun Wx hO => x_load (p := .pointer (some ⟨b1, 17, none⟩)) rfl (by kernel_rfl) (run_load1 (by kernel_rfl) ((hO.cell (List.mem_cons_of_mem _ (List.mem_cons_of_mem _ (List.mem_cons_of_mem _ List.mem_cons_self)))).trans (by kernel_rfl)))) (hO.sub (.cons_cons _ (.cons_cons _ (.cons_cons _ (.cons_cons _ (List.nil_sublist _)))))) ?_; clear hF; intro a hF
      refine Tk 8 hF (.pointer (some ⟨b1, 17, none⟩)) (fun Wx _ => by kernel_rfl) (hO.sub (.cons_cons _ (.cons_cons _ (.cons_cons _ (.cons_cons _ (List.nil_sublist _)))))) ?_; clear hF; intro a hF
      refine Tk 9 hF (.int .i64 (xc.port)) (fun Wx hO => x_load (p := .pointer (some ⟨b1, 17, none⟩)) rfl (by kernel_rfl) (run_load1 (by kernel_rfl) ((hO.cell (List.mem_cons_of_mem _ (List.mem_cons_of_mem _ (List.mem_cons_of_mem _ List.mem_cons_self)))).trans (by kernel_rfl)))) (hO.sub (.cons_cons _ (.cons_cons _ (.cons_cons _ (.cons_cons _ (List.nil_sublist _)))))) ?_; clear hF; intro a hF
      refine A_one (i := 7) (listed' := #[true, true, true, true, true, true, true, true, true, true, false, false, false, false, false, false, false, false, false]) (by kernel_rfl) rfl (by kernel_rfl) ?_
      refine OpK.lc hF (ref03_CutI xa xc.port W16_d (by omega) (by omega)) ?_
      clear hF; rintro _ W18 a ⟨rfl, hk⟩ hF
      replace hO := hO.call0 hk; clear hk
      refine ⟨hO.sub (.cons_cons _ (.cons_cons _ (.cons_cons _ (.cons_cons _ (List.nil_sublist _))))), ?_⟩
      refine Tk 10 hF (.agg #[.bool ((cutIp xa xc.port).six), .int .u8 (((cutIp xa xc.port).b0.toNat : Int)), .int .u8 (((cutIp xa xc.port).b1.toNat : Int)), .int .u8 (((cutIp xa xc.port).b2.toNat : Int)), .int .u8 (((cutIp xa xc.port).b3.toNat : Int)), .int .u8 (((cutIp xa xc.port).b4.toNat : Int)), .int .u8 (((cutIp xa xc.port).b5.toNat : Int)), .int .u8 (((cutIp xa xc.port).b6.toNat : Int)), .int .u8 (((cutIp xa xc.port).b7.toNat : Int)), .int .u8 (((cutIp xa xc.port).b8.toNat : Int)), .int .u8 (((cutIp xa xc.port).b9.toNat : Int)), .int .u8 (((cutIp xa xc.port).b10.toNat : Int)), .int .u8 (((cutIp xa xc.port).b11.toNat : Int)), .int .u8 (((cutIp xa xc.port).b12.toNat : Int)), .int .u8 (((cutIp xa xc.port).b13.toNat : Int)), .int .u8 (((cutIp xa xc.port).b14.toNat : Int)), .int .u8 (((cutIp xa xc.port).b15.toNat : Int)), .int .i64 (xc.port)]) (fun Wx _ => by kernel_rfl) (hO.sub (.cons_cons _ (.cons_cons _ (.cons_cons _ (.cons_cons _ (List.nil_sublist _)))))) ?_; clear hF; intro a hF
      refine Tk 11 hF (.bool true) (fun Wx _ => (x_bool (x := decide ((⟨(cutIp xa xc.port), xc.port⟩ : Pt) = (⟨(cutIp xa xc.port), xc.port⟩ : Pt))) (decide_eq_true rfl) (x_eqCd (a := (⟨(cutIp xa xc.port), xc.port⟩ : Pt)) (b := (⟨(cutIp xa xc.port), xc.port⟩ : Pt)) rfl (by kernel_rfl) (by kernel_rfl)))) (hO.sub (.cons_cons _ (.cons_cons _ (.cons_cons _ (.cons_cons _ (List.nil_sublist _)))))) ?_; clear hF; intro a hF
      refine Tk 12 hF (.bool true) (fun Wx _ => by kernel_rfl) (hO.sub (.cons_cons _ (.cons_cons _ (.cons_cons _ (.cons_cons _ (List.nil_sublist _)))))) ?_; clear hF; intro a hF
      refine Tk 13 hF (.bool true) (fun Wx _ => by kernel_rfl) (hO.sub (.cons_cons _ (.cons_cons _ (.cons_cons _ (.cons_cons _ (List.nil_sublist _)))))) ?_; clear hF; intro a hF
      refine Tk 14 hF (.agg #[.bool (((⟨(cutIp xa xc.port), xc.port⟩ : Pt).ip).six), .int .u8 ((((⟨(cutIp xa xc.port), xc.port⟩ : Pt).ip).b0.toNat : Int)), .int .u8 ((((⟨(cutIp xa xc.port), xc.port⟩ : Pt).ip).b1.toNat : Int)), .int .u8 ((((⟨(cutIp xa xc.port), xc.port⟩ : Pt).ip).b2.toNat : Int)), .int .u8 ((((⟨(cutIp xa xc.port), xc.port⟩ : Pt).ip).b3.toNat : Int)), .int .u8 ((((⟨(cutIp xa xc.port), xc.port⟩ : Pt).ip).b4.toNat : Int)), .int .u8 ((((⟨(cutIp xa xc.port), xc.port⟩ : Pt).ip).b5.toNat : Int)), .int .u8 ((((⟨(cutIp xa xc.port), xc.port⟩ : Pt).ip).b6.toNat : Int)), .int .u8 ((((⟨(cutIp xa xc.port), xc.port⟩ : Pt).ip).b7.toNat : Int)), .int .u8 ((((⟨(cutIp xa xc.port), xc.port⟩ : Pt).ip).b8.toNat : Int)), .int .u8 ((((⟨(cutIp xa xc.port), xc.port⟩ : Pt).ip).b9.toNat : Int)), .int .u8 ((((⟨(cutIp xa xc.port), xc.port⟩ : Pt).ip).b10.toNat : Int)), .int .u8 ((((⟨(cutIp xa xc.port), xc.port⟩ : Pt).ip).b11.toNat : Int)), .int .u8 ((((⟨(cutIp xa xc.port), xc.port⟩ : Pt).ip).b12.toNat : Int)), .int .u8 ((((⟨(cutIp xa xc.port), xc.port⟩ : Pt).ip).b13.toNat : Int)), .int .u8 ((((⟨(cutIp xa xc.port), xc.port⟩ : Pt).ip).b14.toNat : Int)), .int .u8 ((((⟨(cutIp xa xc.port), xc.port⟩ : Pt).ip).b15.toNat : Int)), .int .i64 ((⟨(cutIp xa xc.port), xc.port⟩ : Pt).port)]) (fun Wx hO => x_load (p := .pointer (some ⟨b4, 0, none⟩)) rfl (by kernel_rfl) (run_loadA (k := 18) (by kernel_rfl) (by kernel_rfl) (hO.blk List.mem_cons_self) (by kernel_rfl) (by kernel_rfl))) (hO.sub (.cons_cons _ (.cons_cons _ (.cons_cons _ (.cons_cons _ (List.nil_sublist _)))))) ?_; clear hF; intro a hF
      refine Tk 15 hF (.agg #[.bool xa.six, .int .u8 ((xa.b0.toNat : Int)), .int .u8 ((xa.b1.toNat : Int)), .int .u8 ((xa.b2.toNat : Int)), .int .u8 ((xa.b3.toNat : Int)), .int .u8 ((xa.b4.toNat : Int)), .int .u8 ((xa.b5.toNat : Int)), .int .u8 ((xa.b6.toNat : Int)), .int .u8 ((xa.b7.toNat : Int)), .int .u8 ((xa.b8.toNat : Int)), .int .u8 ((xa.b9.toNat : Int)), .int .u8 ((xa.b10.toNat : Int)), .int .u8 ((xa.b11.toNat : Int)), .int .u8 ((xa.b12.toNat : Int)), .int .u8 ((xa.b13.toNat : Int)), .int .u8 ((xa.b14.toNat : Int)), .int .u8 ((xa.b15.toNat : Int))]) (fun Wx hO => x_load (p := .pointer (some ⟨b3, 0, none⟩)) rfl (by kernel_rfl) (run_loadA (k := 17) (by kernel_rfl) (by kernel_rfl) (hO.blk (List.mem_cons_of_mem _ List.mem_cons_self)) (by kernel_rfl) (by kernel_rfl))) (hO.sub (.cons_cons _ (.cons_cons _ (.cons_cons _ (.cons_cons _ (List.nil_sublist _)))))) ?_; clear hF; intro a hF
      refine A_one (i := 16) (listed' := #[true, true, true, true, true, true, true, true, true, true, true, true, true, true, true, true, true, false, false]) (by kernel_rfl) rfl (by kernel_rfl) ?_
      refine OpK.lc hF (cidr_Contains (⟨(cutIp xa xc.port), xc.port⟩ : Pt) xa W18) ?_
      clear hF; rintro _ W19 a ⟨rfl, hk⟩ hF
      replace hO := hO.call0 hk; clear hk
      refine ⟨hO.sub (.cons_cons _ (.cons_cons _ (.cons_cons _ (.cons_cons _ (List.nil_sublist _))))), ?_⟩
      refine Tk 17 hF (.bool (contCd (⟨(cutIp xa xc.port), xc.port⟩ : Pt) xa)) (fun Wx _ => by kernel_rfl) (hO.sub (.cons_cons _ (.cons_cons _ (.cons_cons _ (.cons_cons _ (List.nil_sublist _)))))) ?_; clear hF; intro a hF
      refine Tk 18 hF (.bool (contCd (⟨(cutIp xa xc.port), xc.port⟩ : Pt) xa)) (fun Wx _ => by kernel_rfl) (hO.sub (.cons_cons _ (.cons_cons _ (.cons_cons _ (.cons_cons _ (List.nil_sublist _)))))) ?_; clear hF; intro a hF
      refine A_done (by kernel_rfl) ?_
      refine hK13 _ _ ?_
      refine wp_ret ?_
      -- way 5: rightIp xa; ¬ xc.port < 0; ¬ xc.port > (widthIp xa)
      refine ret1 hF (v := .bool (contCd (⟨(cutIp xa xc.port), xc.port⟩ : Pt) xa)) rfl (resT (by kernel_rfl)) (by refine ⟨?_, hO.nil⟩; first | rfl | (exfalso; omega) | exact congrArg Value.bool (cont_of hr hf) | (exfalso; have hc := cont_of hr hf; have hq : contCd ⟨cutIp xa xc.port, xc.port⟩ xa = false := (by assumption); rw [hc] at hq; cases hq)) .ret (.inl rfl)

end Go.Proofs.YthellfigmpjhlaaGreatDoor
