import Derived.Test.YthellfigmpjhlaaGreatDoorCidrW
namespace Go.Proofs.YthellfigmpjhlaaGreatDoor
open Go Go.RowKit
set_option linter.unusedVariables false
set_option linter.unusedSimpArgs false
set_option maxRecDepth 20000 in
theorem cidr_Covers (c d : Pt) (W : World) : Ret Tryz.prog 59 #[ptV c, ptV d] W fun v W' => v = .bool (covCd c d) ∧ Own W noX [] W' := by
 refine enter Tryz.func59 rfl (n := 20) rfl (by kernel_rfl) (E0 := [(1, ptV d), (0, ptV c)]) (by kernel_rfl) ?_
 intro a hF; have hO := Own.start W noX
 refine wp_seq_k fun K1 hK1 => ?_
 refine wp_region_lit ?_
 refine L_new hF hO (by kernel_rfl) (by kernel_rfl) (vf := fun b => .pointer (some ⟨b, 0, none⟩)) (ob := .cells #[.bool c.ip.six, .int .u8 ((c.ip.b0.toNat : Int)), .int .u8 ((c.ip.b1.toNat : Int)), .int .u8 ((c.ip.b2.toNat : Int)), .int .u8 ((c.ip.b3.toNat : Int)), .int .u8 ((c.ip.b4.toNat : Int)), .int .u8 ((c.ip.b5.toNat : Int)), .int .u8 ((c.ip.b6.toNat : Int)), .int .u8 ((c.ip.b7.toNat : Int)), .int .u8 ((c.ip.b8.toNat : Int)), .int .u8 ((c.ip.b9.toNat : Int)), .int .u8 ((c.ip.b10.toNat : Int)), .int .u8 ((c.ip.b11.toNat : Int)), .int .u8 ((c.ip.b12.toNat : Int)), .int .u8 ((c.ip.b13.toNat : Int)), .int .u8 ((c.ip.b14.toNat : Int)), .int .u8 ((c.ip.b15.toNat : Int)), .int .i64 (c.port)] 68) (by kernel_rfl) (by kernel_rfl) ?_
 clear hF hO; intro b1 W1 a hO hF
 refine L_new hF hO (by kernel_rfl) (by kernel_rfl) (vf := fun b => .pointer (some ⟨b, 0, none⟩)) (ob := .cells #[.bool d.ip.six, .int .u8 ((d.ip.b0.toNat : Int)), .int .u8 ((d.ip.b1.toNat : Int)), .int .u8 ((d.ip.b2.toNat : Int)), .int .u8 ((d.ip.b3.toNat : Int)), .int .u8 ((d.ip.b4.toNat : Int)), .int .u8 ((d.ip.b5.toNat : Int)), .int .u8 ((d.ip.b6.toNat : Int)), .int .u8 ((d.ip.b7.toNat : Int)), .int .u8 ((d.ip.b8.toNat : Int)), .int .u8 ((d.ip.b9.toNat : Int)), .int .u8 ((d.ip.b10.toNat : Int)), .int .u8 ((d.ip.b11.toNat : Int)), .int .u8 ((d.ip.b12.toNat : Int)), .int .u8 ((d.ip.b13.toNat : Int)), .int .u8 ((d.ip.b14.toNat : Int)), .int .u8 ((d.ip.b15.toNat : Int)), .int .i64 (d.port)] 68) (by kernel_rfl) (by kernel_rfl) ?_
 clear hF hO; intro b2 W2 a hO hF
 refine Vp hF (.bool false) ?_; clear hF; intro a hF
 refine L_nil ?_
 refine hK1 _ _ ?_
 refine wp_seq_k fun K2 hK2 => ?_
 refine wp_region_lit ?_
 refine Vr hF (.agg #[.bool d.ip.six, .int .u8 ((d.ip.b0.toNat : Int)), .int .u8 ((d.ip.b1.toNat : Int)), .int .u8 ((d.ip.b2.toNat : Int)), .int .u8 ((d.ip.b3.toNat : Int)), .int .u8 ((d.ip.b4.toNat : Int)), .int .u8 ((d.ip.b5.toNat : Int)), .int .u8 ((d.ip.b6.toNat : Int)), .int .u8 ((d.ip.b7.toNat : Int)), .int .u8 ((d.ip.b8.toNat : Int)), .int .u8 ((d.ip.b9.toNat : Int)), .int .u8 ((d.ip.b10.toNat : Int)), .int .u8 ((d.ip.b11.toNat : Int)), .int .u8 ((d.ip.b12.toNat : Int)), .int .u8 ((d.ip.b13.toNat : Int)), .int .u8 ((d.ip.b14.toNat : Int)), .int .u8 ((d.ip.b15.toNat : Int)), .int .i64 (d.port)]) (x_load (p := .pointer (some ⟨b2, 0, none⟩)) rfl (by kernel_rfl) (run_loadA (k := 18) (by kernel_rfl) (by kernel_rfl) (hO.blk List.mem_cons_self) (by kernel_rfl) (by kernel_rfl))) ?_; clear hF; intro a hF
 refine Lc hF (cidr_Right d W2) ?_
 clear hF; rintro _ W3 a ⟨rfl, hk⟩ hF
 replace hO := hO.call0 hk; clear hk
 refine Vp hF (.bool (rightCd d)) ?_; clear hF; intro a hF
 cases q1 : (rightCd d : Bool)
 ·
  replace hF := hF.know (d := 7) (v' := .bool false) (by kernel_rfl) (congrArg Value.bool q1)
  refine Lo hF ?_; clear hF; intro a hF
  refine Lo hF ?_; clear hF; intro a hF
  refine Lo hF ?_; clear hF; intro a hF
  refine Lo hF ?_; clear hF; intro a hF
  refine Lo hF ?_; clear hF; intro a hF
  refine Vp hF (.bool false) ?_; clear hF; intro a hF
  refine Vp hF (.bool false) ?_; clear hF; intro a hF
  refine Lo hF ?_; clear hF; intro a hF
  refine Lo hF ?_; clear hF; intro a hF
  refine Lo hF ?_; clear hF; intro a hF
  refine Lo hF ?_; clear hF; intro a hF
  refine Vp hF (.bool false) ?_; clear hF; intro a hF
  refine Vp hF (.bool false) ?_; clear hF; intro a hF
  refine L_nil ?_
  refine hK2 _ _ ?_
  refine wp_ret ?_
  refine ret1 hF (v := .bool false) rfl (resT (by kernel_rfl)) (by refine ⟨?_, hO.nil⟩; unfold covCd; simp [*]) .ret (.inl rfl)
 ·
  replace hF := hF.know (d := 7) (v' := .bool true) (by kernel_rfl) (congrArg Value.bool q1)
  refine Vp hF (.pointer (some ⟨b2, 17, none⟩)) ?_; clear hF; intro a hF
  refine Vr hF (.int .i64 (d.port)) (x_load (p := .pointer (some ⟨b2, 17, none⟩)) rfl (by kernel_rfl) (run_load1 (by kernel_rfl) ((hO.cell List.mem_cons_self).trans (by kernel_rfl)))) ?_; clear hF; intro a hF
  refine Vp hF (.pointer (some ⟨b1, 17, none⟩)) ?_; clear hF; intro a hF
  refine Vr hF (.int .i64 (c.port)) (x_load (p := .pointer (some ⟨b1, 17, none⟩)) rfl (by kernel_rfl) (run_load1 (by kernel_rfl) ((hO.cell (List.mem_cons_of_mem _ List.mem_cons_self)).trans (by kernel_rfl)))) ?_; clear hF; intro a hF
  refine Vp hF (.bool (decide (d.port ≥ c.port))) ?_; clear hF; intro a hF
  refine Vp hF (.bool (decide (d.port ≥ c.port))) ?_; clear hF; intro a hF
  refine Vp hF (.bool (decide (d.port ≥ c.port))) ?_; clear hF; intro a hF
  by_cases q2 : d.port ≥ c.port
  ·
   replace hF := hF.know (d := 14) (v' := .bool true) (by kernel_rfl) (congrArg Value.bool (decide_eq_true q2))
   refine Vr hF (.agg #[.bool c.ip.six, .int .u8 ((c.ip.b0.toNat : Int)), .int .u8 ((c.ip.b1.toNat : Int)), .int .u8 ((c.ip.b2.toNat : Int)), .int .u8 ((c.ip.b3.toNat : Int)), .int .u8 ((c.ip.b4.toNat : Int)), .int .u8 ((c.ip.b5.toNat : Int)), .int .u8 ((c.ip.b6.toNat : Int)), .int .u8 ((c.ip.b7.toNat : Int)), .int .u8 ((c.ip.b8.toNat : Int)), .int .u8 ((c.ip.b9.toNat : Int)), .int .u8 ((c.ip.b10.toNat : Int)), .int .u8 ((c.ip.b11.toNat : Int)), .int .u8 ((c.ip.b12.toNat : Int)), .int .u8 ((c.ip.b13.toNat : Int)), .int .u8 ((c.ip.b14.toNat : Int)), .int .u8 ((c.ip.b15.toNat : Int)), .int .i64 (c.port)]) (x_load (p := .pointer (some ⟨b1, 0, none⟩)) rfl (by kernel_rfl) (run_loadA (k := 18) (by kernel_rfl) (by kernel_rfl) (hO.blk (List.mem_cons_of_mem _ List.mem_cons_self)) (by kernel_rfl) (by kernel_rfl))) ?_; clear hF; intro a hF
   refine Vp hF (.pointer (some ⟨b2, 0, none⟩)) ?_; clear hF; intro a hF
   refine Vr hF (ipV d.ip) (x_load (p := .pointer (some ⟨b2, 0, none⟩)) rfl (by kernel_rfl) (run_loadA (k := 17) (by kernel_rfl) (by kernel_rfl) (hO.blk List.mem_cons_self) (by kernel_rfl) (by kernel_rfl))) ?_; clear hF; intro a hF
   refine Lc hF (cidr_Contains c d.ip W3) ?_
   clear hF; rintro _ W4 a ⟨rfl, hk⟩ hF
   replace hO := hO.call0 hk; clear hk
   refine Vp hF (.bool (contCd c d.ip)) ?_; clear hF; intro a hF
   refine Vp hF (.bool (contCd c d.ip)) ?_; clear hF; intro a hF
   refine L_nil ?_
   refine hK2 _ _ ?_
   refine wp_ret ?_
   refine ret1 hF (v := .bool (contCd c d.ip)) rfl (resT (by kernel_rfl)) (by refine ⟨?_, hO.nil⟩; unfold covCd; simp [*]) .ret (.inl rfl)
  ·
   replace hF := hF.know (d := 14) (v' := .bool false) (by kernel_rfl) (congrArg Value.bool (decide_eq_false q2))
   refine Lo hF ?_; clear hF; intro a hF
   refine Lo hF ?_; clear hF; intro a hF
   refine Lo hF ?_; clear hF; intro a hF
   refine Lo hF ?_; clear hF; intro a hF
   refine Vp hF (.bool false) ?_; clear hF; intro a hF
   refine Vp hF (.bool false) ?_; clear hF; intro a hF
   refine L_nil ?_
   refine hK2 _ _ ?_
   refine wp_ret ?_
   refine ret1 hF (v := .bool false) rfl (resT (by kernel_rfl)) (by refine ⟨?_, hO.nil⟩; unfold covCd; simp [*]) .ret (.inl rfl)

set_option maxRecDepth 20000 in
theorem cmp_isNaN (n : Int) (W : World) : Ret Tryz.prog 148 #[.int .i64 (n)] W fun v W' => v = .bool false ∧ Own W noD [] W' := by
 refine enter Tryz.func148 rfl (n := 6) rfl (by kernel_rfl) (E0 := [(0, .int .i64 (n))]) (by kernel_rfl) ?_
 intro a hF; have hO := Own.start W noD
 refine wp_seq_k fun K1 hK1 => ?_
 refine wp_region_lit ?_
 refine Vp hF (.bool false) ?_; clear hF; intro a hF
 refine L_nil ?_
 refine hK1 _ _ ?_
 refine wp_seq_k fun K2 hK2 => ?_
 refine wp_region_lit ?_
 refine Vp hF (.int .i64 (n)) ?_; clear hF; intro a hF
 refine Vp hF (.int .i64 (n)) ?_; clear hF; intro a hF
 refine Vr hF (.bool false) (x_bool (x := !(n == n)) (notF (beq_self_eq_true _)) (by kernel_rfl)) ?_; clear hF; intro a hF
 refine Vp hF (.bool false) ?_; clear hF; intro a hF
 refine L_nil ?_
 refine hK2 _ _ ?_
 refine wp_ret ?_
 refine ret1 hF (v := .bool false) rfl (resT (by kernel_rfl)) (by refine ⟨?_, hO.nil⟩; first | rfl | (simp [*]; done)) .ret (.inl rfl)

set_option maxRecDepth 20000 in
theorem cmp_Compare (n m : Int) (W : World) : Ret Tryz.prog 110 #[.int .i64 (n), .int .i64 (m)] W fun v W' => v = .int .i64 (cmpInt n m) ∧ Own W noD [] W' := by
 refine enter Tryz.func110 rfl (n := 20) rfl (by kernel_rfl) (E0 := [(1, .int .i64 (m)), (0, .int .i64 (n))]) (by kernel_rfl) ?_
 intro a hF; have hO := Own.start W noD
 refine wp_seq_k fun K1 hK1 => ?_
 refine wp_region_lit ?_
 refine Vp hF (.int .i64 0) ?_; clear hF; intro a hF
 refine L_nil ?_
 refine hK1 _ _ ?_
 refine wp_seq_k fun K2 hK2 => ?_
 refine wp_region_lit ?_
 refine Vp hF (.int .i64 (n)) ?_; clear hF; intro a hF
 refine Lc hF (cmp_isNaN n W) ?_
 clear hF; rintro _ W1 a ⟨rfl, hk⟩ hF
 replace hO := hO.call0 hk; clear hk
 refine Vp hF (.bool false) ?_; clear hF; intro a hF
 refine L_nil ?_
 refine hK2 _ _ ?_
 refine wp_seq_k fun K3 hK3 => ?_
 refine wp_region_lit ?_
 refine Vp hF (.int .i64 (m)) ?_; clear hF; intro a hF
 refine Lc hF (cmp_isNaN m W1) ?_
 clear hF; rintro _ W2 a ⟨rfl, hk⟩ hF
 replace hO := hO.call0 hk; clear hk
 refine Vp hF (.bool false) ?_; clear hF; intro a hF
 refine L_nil ?_
 refine hK3 _ _ ?_
 refine wp_seq_k fun K4 hK4 => ?_
 refine wp_seq_k fun K5 hK5 => ?_
 refine wp_region_lit ?_
 refine Vp hF (.bool false) ?_; clear hF; intro a hF
 refine L_nil ?_
 refine hK5 _ _ ?_
 refine cond_f hF (by kernel_rfl) (by kernel_rfl) ?_
 refine wp_skip ?_
 refine hK4 _ _ ?_
 refine wp_seq_k fun K6 hK6 => ?_
 refine wp_seq_k fun K7 hK7 => ?_
 refine wp_region_lit ?_
 refine Vp hF (.bool false) ?_; clear hF; intro a hF
 refine L_nil ?_
 refine hK7 _ _ ?_
 refine cond_f hF (by kernel_rfl) (by kernel_rfl) ?_
 refine wp_skip ?_
 refine hK6 _ _ ?_
 refine wp_seq_k fun K8 hK8 => ?_
 refine wp_seq_k fun K9 hK9 => ?_
 refine wp_region_lit ?_
 refine Vp hF (.int .i64 (n)) ?_; clear hF; intro a hF
 refine Vp hF (.int .i64 (m)) ?_; clear hF; intro a hF
 refine Vp hF (.bool (decide (n < m))) ?_; clear hF; intro a hF
 refine L_nil ?_
 refine hK9 _ _ ?_
 by_cases q1 : n < m
 ·
  replace hF := hF.know (d := 16) (v' := .bool true) (by kernel_rfl) (congrArg Value.bool (decide_eq_true q1))
  refine cond_t hF (by kernel_rfl) (by kernel_rfl) ?_
  refine wp_seq_k fun K10 hK10 => ?_
  refine wp_region_lit ?_
  refine Vp hF (.int .i64 (-1)) ?_; clear hF; intro a hF
  refine L_nil ?_
  refine hK10 _ _ ?_
  refine wp_ret ?_
  refine then_ret ?_
  refine ret1 hF (v := .int .i64 (-1)) rfl (resT (by kernel_rfl)) (by refine ⟨?_, hO.nil⟩; unfold cmpInt; simp [*]) .ret (.inl rfl)
 ·
  replace hF := hF.know (d := 16) (v' := .bool false) (by kernel_rfl) (congrArg Value.bool (decide_eq_false q1))
  refine cond_f hF (by kernel_rfl) (by kernel_rfl) ?_
  refine wp_skip ?_
  refine hK8 _ _ ?_
  refine wp_seq_k fun K11 hK11 => ?_
  refine wp_seq_k fun K12 hK12 => ?_
  refine wp_region_lit ?_
  refine Vp hF (.int .i64 (n)) ?_; clear hF; intro a hF
  refine Vp hF (.int .i64 (m)) ?_; clear hF; intro a hF
  refine Vp hF (.bool (decide (n > m))) ?_; clear hF; intro a hF
  refine L_nil ?_
  refine hK12 _ _ ?_
  by_cases q2 : n > m
  ·
   replace hF := hF.know (d := 19) (v' := .bool true) (by kernel_rfl) (congrArg Value.bool (decide_eq_true q2))
   refine cond_t hF (by kernel_rfl) (by kernel_rfl) ?_
   refine wp_seq_k fun K13 hK13 => ?_
   refine wp_region_lit ?_
   refine Vp hF (.int .i64 1) ?_; clear hF; intro a hF
   refine L_nil ?_
   refine hK13 _ _ ?_
   refine wp_ret ?_
   refine then_ret ?_
   refine ret1 hF (v := .int .i64 1) rfl (resT (by kernel_rfl)) (by refine ⟨?_, hO.nil⟩; unfold cmpInt; simp [*]) .ret (.inl rfl)
  ·
   replace hF := hF.know (d := 19) (v' := .bool false) (by kernel_rfl) (congrArg Value.bool (decide_eq_false q2))
   refine cond_f hF (by kernel_rfl) (by kernel_rfl) ?_
   refine wp_skip ?_
   refine hK11 _ _ ?_
   refine wp_seq_k fun K14 hK14 => ?_
   refine wp_region_lit ?_
   refine Vp hF (.int .i64 0) ?_; clear hF; intro a hF
   refine L_nil ?_
   refine hK14 _ _ ?_
   refine wp_ret ?_
   refine ret1 hF (v := .int .i64 0) rfl (resT (by kernel_rfl)) (by refine ⟨?_, hO.nil⟩; unfold cmpInt; simp [*]) .ret (.inl rfl)

set_option maxRecDepth 20000 in
theorem cmp_Or (p : Option Addr) (c : Nat) (l : List Int) (W : World) (hl : SlAt W p (l.flatMap i64L)) (hn : l.length ≤ 1000) : Ret Tryz.prog 109 #[.slice p l.length c] W fun v W' => v = .int .i64 (orL l) ∧ Own W noD [] W' := by
 refine enter Tryz.func109 rfl (n := 18) rfl (by kernel_rfl) (E0 := [(0, .slice p l.length c)]) (by kernel_rfl) ?_
 intro a hF; have hO := Own.start W noD
 refine wp_seq_k fun K1 hK1 => ?_
 refine wp_region_lit ?_
 refine Vp hF (.int .i64 0) ?_; clear hF; intro a hF
 refine L_nil ?_
 refine hK1 _ _ ?_
 refine wp_seq_k fun K2 hK2 => ?_
 refine wp_region_lit ?_
 refine Vp hF (.int .i64 0) ?_; clear hF; intro a hF
 refine L_nil ?_
 refine hK2 _ _ ?_
 refine wp_seq_k fun K3 hK3 => ?_
 refine wp_seq_k fun K4 hK4 => ?_
 refine wp_region_lit ?_
 refine Vp hF (.slice p l.length c) ?_; clear hF; intro a hF
 refine Vp hF (.int .i64 ((l.length : Int))) ?_; clear hF; intro a hF
 refine Vp hF (.int .i64 0) ?_; clear hF; intro a hF
 refine L_nil ?_
 refine hK4 _ _ ?_
 refine wp_block ?_
 refine loopX (τ := Nat) (fun (i : Nat) a Wx => (i ≤ l.length ∧ orL l = orL (l.drop i)) ∧ Fr 18 a [(3, .int .i64 0), (6, .slice p l.length c), (7, .int .i64 ((l.length : Int))), (8, .int .i64 ((i : Int)))] ∧ Own W noD [] Wx) (fun (i : Nat) => l.length - i) (0) ⟨⟨Nat.zero_le _, rfl⟩, ?_, ?_⟩ ?_
 · exact hF.restrict ⟨(by kernel_rfl), (by kernel_rfl), (by kernel_rfl), (congrArg some (by first | rfl | exact congrArg (Value.int _) (by omega) | simp)), trivial⟩
 · exact hO.sub (List.nil_sublist _)
 clear hF hO; rintro i a Wl1 ⟨hI, hF, hO⟩ KhK_1 hK_1
 try dsimp only at hI
 refine wp_seq_k fun K5 hK5 => ?_
 refine wp_region_lit ?_
 refine Vp hF (.bool (decide ((i : Int) < (l.length : Int)))) ?_; clear hF; intro a hF
 refine L_nil ?_
 refine hK5 _ _ ?_
 refine wp_seq_k fun K6 hK6 => ?_
 by_cases q1 : (i : Int) < (l.length : Int)
 ·
  replace hF := hF.know (d := 9) (v' := .bool true) (by kernel_rfl) (congrArg Value.bool (decide_eq_true q1))
  refine cond_t hF (by kernel_rfl) (by kernel_rfl) ?_
  refine wp_skip ?_
  refine hK6 _ _ ?_
  refine wp_seq_k fun K7 hK7 => ?_
  refine wp_block ?_
  refine wp_seq_k fun K8 hK8 => ?_
  refine wp_region_lit ?_
  refine Vr hF (.pointer (some ⟨(ab p), ao p + i * 1, none⟩)) (x_idxAddrS (p := p) (len := l.length) (cap := c) (elem := 3) (kd := .i64) (k := 1) (i := (i : Int)) rfl (by kernel_rfl) (by kernel_rfl) (by kernel_rfl) (by kernel_rfl) (by omega) (by omega) (SlAt.ne (k := 1) (hl.own hO) (fun _ => rfl) (by decide) (by (first | omega | (simp only [List.length_set, List.length_take, List.length_drop, List.length_append, List.length_cons, List.length_nil]; done) | (simp only [List.length_set, List.length_take, List.length_drop, List.length_append, List.length_cons, List.length_nil]; omega) | (simp only [List.length_set, List.length_take, List.length_drop, List.length_append, List.length_cons, List.length_nil] at *; omega)) : i < l.length))) ?_; clear hF; intro a hF
  refine Vr hF (.int .i64 ((nth l i))) (x_load (p := .pointer (some ⟨(ab p), ao p + i * 1, none⟩)) rfl (by kernel_rfl) (run_loadEl1 (by kernel_rfl) (hl.own hO) (fun _ => rfl) (by (first | omega | (simp only [List.length_set, List.length_take, List.length_drop, List.length_append, List.length_cons, List.length_nil]; done) | (simp only [List.length_set, List.length_take, List.length_drop, List.length_append, List.length_cons, List.length_nil]; omega) | (simp only [List.length_set, List.length_take, List.length_drop, List.length_append, List.length_cons, List.length_nil] at *; omega))) rfl)) ?_; clear hF; intro a hF
  refine Vp hF (.int .i64 ((nth l i))) ?_; clear hF; intro a hF
  refine L_nil ?_
  refine hK8 _ _ ?_
  refine wp_seq_k fun K9 hK9 => ?_
  refine wp_region_lit ?_
  refine Vp hF (.int .i64 ((nth l i))) ?_; clear hF; intro a hF
  refine Vp hF (.int .i64 0) ?_; clear hF; intro a hF
  refine Vp hF (.bool (!((nth l i) == 0))) ?_; clear hF; intro a hF
  refine L_nil ?_
  refine hK9 _ _ ?_
  by_cases q2 : (nth l i) = 0
  ·
   replace hF := hF.know (d := 14) (v' := .bool false) (by kernel_rfl) (congrArg Value.bool (neF (not_not_intro q2)))
   refine cond_f hF (by kernel_rfl) (by kernel_rfl) ?_
   refine wp_skip ?_
   refine block_normal ?_
   refine hK7 _ _ ?_
   refine wp_region_lit ?_
   refine Vr hF (.int .i64 ((i : Int) + 1)) (x_int (x := IntKind.i64.wrap ((i : Int) + 1)) (i64In (by omega) (by omega)) (by kernel_rfl)) ?_; clear hF; intro a hF
   refine Vp hF (.int .i64 ((i : Int) + 1)) ?_; clear hF; intro a hF
   refine L_nil ?_
   refine hK_1 (i + 1) _ _ (by first | omega | (dsimp only; omega)) ⟨⟨by omega, or_next hI.2 (by omega) (by omega)⟩, ?_, ?_⟩
   · exact hF.restrict ⟨(by kernel_rfl), (by kernel_rfl), (by kernel_rfl), (congrArg some (by first | rfl | exact congrArg (Value.int _) (by omega) | simp)), trivial⟩
   · exact hO.sub (List.nil_sublist _)
  ·
   replace hF := hF.know (d := 14) (v' := .bool true) (by kernel_rfl) (congrArg Value.bool (neT q2))
   refine cond_t hF (by kernel_rfl) (by kernel_rfl) ?_
   refine wp_seq_k fun K10 hK10 => ?_
   refine wp_region_lit ?_
   refine Vp hF (.int .i64 ((nth l i))) ?_; clear hF; intro a hF
   refine Vp hF (.int .i64 ((nth l i))) ?_; clear hF; intro a hF
   refine L_nil ?_
   refine hK10 _ _ ?_
   refine wp_ret ?_
   refine block_ret ?_
   refine then_ret ?_
   refine then_ret ?_
   refine block_ret ?_
   refine then_ret ?_
   refine ret1 hF (v := .int .i64 ((nth l i))) rfl (resT (by kernel_rfl)) (by refine ⟨?_, hO.nil⟩; first | exact congrArg (Value.int _) (or_hit hI.2 (by omega) (by assumption)) | exact congrArg (Value.int _) (or_end hI.2 (by omega))) .ret (.inl rfl)
 ·
  replace hF := hF.know (d := 9) (v' := .bool false) (by kernel_rfl) (congrArg Value.bool (decide_eq_false q1))
  refine cond_f hF (by kernel_rfl) (by kernel_rfl) ?_
  refine wp_exit ?_
  refine then_exit ?_
  refine then_exit ?_
  refine inBlock_hit ?_
  refine hK3 _ _ ?_
  refine wp_seq_k fun K11 hK11 => ?_
  refine wp_region_lit ?_
  refine Vp hF (.int .i64 0) ?_; clear hF; intro a hF
  refine Vp hF (.int .i64 0) ?_; clear hF; intro a hF
  refine L_nil ?_
  refine hK11 _ _ ?_
  refine wp_ret ?_
  refine ret1 hF (v := .int .i64 0) rfl (resT (by kernel_rfl)) (by refine ⟨?_, hO.nil⟩; first | exact congrArg (Value.int _) (or_hit hI.2 (by omega) (by assumption)) | exact congrArg (Value.int _) (or_end hI.2 (by omega))) .ret (.inl rfl)

set_option maxRecDepth 20000 in
theorem cidr_CompareD (c d : Pt) (W : World) : Ret Tryz.prog 61 #[ptV c, ptV d] W fun v W' => v = .int .i64 (cmpCd c d) ∧ Own W noD [] W' := by
 refine enter Tryz.func61 rfl (n := 17) rfl (by kernel_rfl) (E0 := [(1, ptV d), (0, ptV c)]) (by kernel_rfl) ?_
 intro a hF; have hO := Own.start W noD
 refine wp_seq_k fun K1 hK1 => ?_
 refine wp_region_lit ?_
 refine L_new hF hO (by kernel_rfl) (by kernel_rfl) (vf := fun b => .pointer (some ⟨b, 0, none⟩)) (ob := .cells #[.bool c.ip.six, .int .u8 ((c.ip.b0.toNat : Int)), .int .u8 ((c.ip.b1.toNat : Int)), .int .u8 ((c.ip.b2.toNat : Int)), .int .u8 ((c.ip.b3.toNat : Int)), .int .u8 ((c.ip.b4.toNat : Int)), .int .u8 ((c.ip.b5.toNat : Int)), .int .u8 ((c.ip.b6.toNat : Int)), .int .u8 ((c.ip.b7.toNat : Int)), .int .u8 ((c.ip.b8.toNat : Int)), .int .u8 ((c.ip.b9.toNat : Int)), .int .u8 ((c.ip.b10.toNat : Int)), .int .u8 ((c.ip.b11.toNat : Int)), .int .u8 ((c.ip.b12.toNat : Int)), .int .u8 ((c.ip.b13.toNat : Int)), .int .u8 ((c.ip.b14.toNat : Int)), .int .u8 ((c.ip.b15.toNat : Int)), .int .i64 (c.port)] 68) (by kernel_rfl) (by kernel_rfl) ?_
 clear hF hO; intro b1 W1 a hO hF
 refine L_new hF hO (by kernel_rfl) (by kernel_rfl) (vf := fun b => .pointer (some ⟨b, 0, none⟩)) (ob := .cells #[.bool d.ip.six, .int .u8 ((d.ip.b0.toNat : Int)), .int .u8 ((d.ip.b1.toNat : Int)), .int .u8 ((d.ip.b2.toNat : Int)), .int .u8 ((d.ip.b3.toNat : Int)), .int .u8 ((d.ip.b4.toNat : Int)), .int .u8 ((d.ip.b5.toNat : Int)), .int .u8 ((d.ip.b6.toNat : Int)), .int .u8 ((d.ip.b7.toNat : Int)), .int .u8 ((d.ip.b8.toNat : Int)), .int .u8 ((d.ip.b9.toNat : Int)), .int .u8 ((d.ip.b10.toNat : Int)), .int .u8 ((d.ip.b11.toNat : Int)), .int .u8 ((d.ip.b12.toNat : Int)), .int .u8 ((d.ip.b13.toNat : Int)), .int .u8 ((d.ip.b14.toNat : Int)), .int .u8 ((d.ip.b15.toNat : Int)), .int .i64 (d.port)] 68) (by kernel_rfl) (by kernel_rfl) ?_
 clear hF hO; intro b2 W2 a hO hF
 refine Vp hF (.int .i64 0) ?_; clear hF; intro a hF
 refine L_nil ?_
 refine hK1 _ _ ?_
 refine wp_seq_k fun K2 hK2 => ?_
 refine A_start (fun Wx => Own W noD [.blk b2 (.cells #[.bool d.ip.six, .int .u8 ((d.ip.b0.toNat : Int)), .int .u8 ((d.ip.b1.toNat : Int)), .int .u8 ((d.ip.b2.toNat : Int)), .int .u8 ((d.ip.b3.toNat : Int)), .int .u8 ((d.ip.b4.toNat : Int)), .int .u8 ((d.ip.b5.toNat : Int)), .int .u8 ((d.ip.b6.toNat : Int)), .int .u8 ((d.ip.b7.toNat : Int)), .int .u8 ((d.ip.b8.toNat : Int)), .int .u8 ((d.ip.b9.toNat : Int)), .int .u8 ((d.ip.b10.toNat : Int)), .int .u8 ((d.ip.b11.toNat : Int)), .int .u8 ((d.ip.b12.toNat : Int)), .int .u8 ((d.ip.b13.toNat : Int)), .int .u8 ((d.ip.b14.toNat : Int)), .int .u8 ((d.ip.b15.toNat : Int)), .int .i64 (d.port)] 68 (0, 0)), .blk b1 (.cells #[.bool c.ip.six, .int .u8 ((c.ip.b0.toNat : Int)), .int .u8 ((c.ip.b1.toNat : Int)), .int .u8 ((c.ip.b2.toNat : Int)), .int .u8 ((c.ip.b3.toNat : Int)), .int .u8 ((c.ip.b4.toNat : Int)), .int .u8 ((c.ip.b5.toNat : Int)), .int .u8 ((c.ip.b6.toNat : Int)), .int .u8 ((c.ip.b7.toNat : Int)), .int .u8 ((c.ip.b8.toNat : Int)), .int .u8 ((c.ip.b9.toNat : Int)), .int .u8 ((c.ip.b10.toNat : Int)), .int .u8 ((c.ip.b11.toNat : Int)), .int .u8 ((c.ip.b12.toNat : Int)), .int .u8 ((c.ip.b13.toNat : Int)), .int .u8 ((c.ip.b14.toNat : Int)), .int .u8 ((c.ip.b15.toNat : Int)), .int .i64 (c.port)] 68 (0, 0))] Wx) (by kernel_rfl) ?_
 replace hO := hO.drewN 1
 generalize hWd : ({ W2 with drawn := W2.drawn + 1 } : World) = W2_d at hO ⊢; clear hWd
 have hS := hO.sub (.cons_cons _ (.cons_cons _ (List.nil_sublist _)))
 refine Tk 0 rfl hF (.pointer (some ⟨b1, 0, none⟩)) (fun Wx _ => by kernel_rfl) hS ?_; clear hF; intro a hF
 refine Tk 1 rfl hF (ipV c.ip) (fun Wx hO => x_load (p := .pointer (some ⟨b1, 0, none⟩)) rfl (by kernel_rfl) (run_loadA (k := 17) (by kernel_rfl) (by kernel_rfl) (hO.blk (List.mem_cons_of_mem _ List.mem_cons_self)) (by kernel_rfl) (by kernel_rfl))) hS ?_; clear hF; intro a hF
 refine Tk 2 rfl hF (.pointer (some ⟨b2, 0, none⟩)) (fun Wx _ => by kernel_rfl) hS ?_; clear hF; intro a hF
 refine Tk 3 rfl hF (ipV d.ip) (fun Wx hO => x_load (p := .pointer (some ⟨b2, 0, none⟩)) rfl (by kernel_rfl) (run_loadA (k := 17) (by kernel_rfl) (by kernel_rfl) (hO.blk List.mem_cons_self) (by kernel_rfl) (by kernel_rfl))) hS ?_; clear hF; intro a hF
 refine Tk 5 rfl hF (.pointer (some ⟨b1, 17, none⟩)) (fun Wx _ => by kernel_rfl) hS ?_; clear hF; intro a hF
 refine Tk 6 rfl hF (.int .i64 (c.port)) (fun Wx hO => x_load (p := .pointer (some ⟨b1, 17, none⟩)) rfl (by kernel_rfl) (run_load1 (by kernel_rfl) ((hO.cell (List.mem_cons_of_mem _ List.mem_cons_self)).trans (by kernel_rfl)))) hS ?_; clear hF; intro a hF
 refine Tk 7 rfl hF (.pointer (some ⟨b2, 17, none⟩)) (fun Wx _ => by kernel_rfl) hS ?_; clear hF; intro a hF
 refine Tk 8 rfl hF (.int .i64 (d.port)) (fun Wx hO => x_load (p := .pointer (some ⟨b2, 17, none⟩)) rfl (by kernel_rfl) (run_load1 (by kernel_rfl) ((hO.cell List.mem_cons_self).trans (by kernel_rfl)))) hS ?_; clear hF; intro a hF
 refine A_one (i := 4) (listed' := #[true, true, true, true, true, true, true, true, true, false, false, false, false]) (by kernel_rfl) rfl (by kernel_rfl) ?_
 refine OpK.lc hF ((addr_Compare c.ip d.ip W2_d).mono fun v W' h => (⟨h.1.trans (congrArg (Value.int _) (cmpIp_refIp c.ip d.ip)), h.2⟩ : v = .int .i64 ((refIp c.ip d.ip)) ∧ Own W2_d noD [] W')) ?_
 clear hF; rintro _ W3 a ⟨rfl, hk⟩ hF
 replace hO := hO.call0 hk; clear hk
 refine ⟨hO.sub (.cons_cons _ (.cons_cons _ (List.nil_sublist _))), ?_⟩
 refine A_one (i := 9) (listed' := #[true, true, true, true, true, true, true, true, true, true, false, false, false]) (by kernel_rfl) rfl (by kernel_rfl) ?_
 refine OpK.lc hF (cmp_Compare c.port d.port W3) ?_
 clear hF; rintro _ W4 a ⟨rfl, hk⟩ hF
 replace hO := hO.call0 hk; clear hk
 refine ⟨hO.sub (.cons_cons _ (.cons_cons _ (List.nil_sublist _))), ?_⟩
 refine A_one (i := 10) (listed' := #[true, true, true, true, true, true, true, true, true, true, true, false, false]) (by kernel_rfl) rfl (by kernel_rfl) ?_
 refine OpK.new hF hO (by kernel_rfl) (by kernel_rfl) (vf := fun b => .slice (some ⟨b, 0, none⟩) 2 2) (ob := .cells #[.int .i64 ((refIp c.ip d.ip)), .int .i64 ((cmpInt c.port d.port))] 3) (by kernel_rfl) (by kernel_rfl) ?_
 clear hF hO; intro b3 W5 a hO hF
 refine ⟨hO.sub (.cons _ (.cons_cons _ (.cons_cons _ (List.nil_sublist _)))), ?_⟩
 refine A_one (i := 11) (listed' := #[true, true, true, true, true, true, true, true, true, true, true, true, false]) (by kernel_rfl) rfl (by kernel_rfl) ?_
 refine OpK.lc hF (cmp_Or (some ⟨b3, 0, none⟩) 2 (([(refIp c.ip d.ip), (cmpInt c.port d.port)] : List Int)) W5 (SlAt.blk hO List.mem_cons_self (by kernel_rfl)) (by simp)) ?_
 clear hF; rintro _ W6 a ⟨rfl, hk⟩ hF
 replace hO := hO.call0 hk; clear hk
 refine ⟨hO.sub (.cons _ (.cons_cons _ (.cons_cons _ (List.nil_sublist _)))), ?_⟩
 have hS := hO.sub (.cons _ (.cons_cons _ (.cons_cons _ (List.nil_sublist _))))
 refine Tk 12 rfl hF (.int .i64 ((orL ([(refIp c.ip d.ip), (cmpInt c.port d.port)] : List Int)))) (fun Wx _ => by kernel_rfl) hS ?_; clear hF; intro a hF
 refine A_done (by kernel_rfl) ?_
 refine hK2 _ _ ?_
 refine wp_ret ?_
 refine ret1 hF (v := .int .i64 ((orL ([(refIp c.ip d.ip), (cmpInt c.port d.port)] : List Int)))) rfl (resT (by kernel_rfl)) (by refine ⟨?_, hO.nil⟩; exact congrArg (Value.int _) (cmpCd_or c d)) .ret (.inl rfl)

theorem cidr_Compare (c d : Pt) (W : World) : Ret Tryz.prog 61 #[ptV c, ptV d] W fun v W' => v = .int .i64 (cmpCd c d) ∧ Own W noX [] W' := (cidr_CompareD c d W).mono fun _ _ h => ⟨h.1, own_noX h.2⟩
set_option maxRecDepth 20000 in
theorem ref03_Compare (c d : Pt) (W : World) : Ret Tryz.prog 62 #[ptV c, ptV d] W fun v W' => v = .int .i64 (cmpCd c d) ∧ Own W noX [] W' := by
 refine enter Tryz.func62 rfl (n := 24) rfl (by kernel_rfl) (E0 := [(1, ptV d), (0, ptV c)]) (by kernel_rfl) ?_
 intro a hF; have hO := Own.start W noX
 refine wp_seq_k fun K1 hK1 => ?_
 refine wp_region_lit ?_
 refine L_new hF hO (by kernel_rfl) (by kernel_rfl) (vf := fun b => .pointer (some ⟨b, 0, none⟩)) (ob := .cells #[.bool c.ip.six, .int .u8 ((c.ip.b0.toNat : Int)), .int .u8 ((c.ip.b1.toNat : Int)), .int .u8 ((c.ip.b2.toNat : Int)), .int .u8 ((c.ip.b3.toNat : Int)), .int .u8 ((c.ip.b4.toNat : Int)), .int .u8 ((c.ip.b5.toNat : Int)), .int .u8 ((c.ip.b6.toNat : Int)), .int .u8 ((c.ip.b7.toNat : Int)), .int .u8 ((c.ip.b8.toNat : Int)), .int .u8 ((c.ip.b9.toNat : Int)), .int .u8 ((c.ip.b10.toNat : Int)), .int .u8 ((c.ip.b11.toNat : Int)), .int .u8 ((c.ip.b12.toNat : Int)), .int .u8 ((c.ip.b13.toNat : Int)), .int .u8 ((c.ip.b14.toNat : Int)), .int .u8 ((c.ip.b15.toNat : Int)), .int .i64 (c.port)] 68) (by kernel_rfl) (by kernel_rfl) ?_
 clear hF hO; intro b1 W1 a hO hF
 refine L_new hF hO (by kernel_rfl) (by kernel_rfl) (vf := fun b => .pointer (some ⟨b, 0, none⟩)) (ob := .cells #[.bool d.ip.six, .int .u8 ((d.ip.b0.toNat : Int)), .int .u8 ((d.ip.b1.toNat : Int)), .int .u8 ((d.ip.b2.toNat : Int)), .int .u8 ((d.ip.b3.toNat : Int)), .int .u8 ((d.ip.b4.toNat : Int)), .int .u8 ((d.ip.b5.toNat : Int)), .int .u8 ((d.ip.b6.toNat : Int)), .int .u8 ((d.ip.b7.toNat : Int)), .int .u8 ((d.ip.b8.toNat : Int)), .int .u8 ((d.ip.b9.toNat : Int)), .int .u8 ((d.ip.b10.toNat : Int)), .int .u8 ((d.ip.b11.toNat : Int)), .int .u8 ((d.ip.b12.toNat : Int)), .int .u8 ((d.ip.b13.toNat : Int)), .int .u8 ((d.ip.b14.toNat : Int)), .int .u8 ((d.ip.b15.toNat : Int)), .int .i64 (d.port)] 68) (by kernel_rfl) (by kernel_rfl) ?_
 clear hF hO; intro b2 W2 a hO hF
 refine Vp hF (.int .i64 0) ?_; clear hF; intro a hF
 refine L_nil ?_
 refine hK1 _ _ ?_
 refine wp_seq_k fun K2 hK2 => ?_
 refine wp_seq_k fun K3 hK3 => ?_
 refine wp_region_lit ?_
 refine Vp hF (.pointer (some ⟨b1, 0, none⟩)) ?_; clear hF; intro a hF
 refine Vr hF (ipV c.ip) (x_load (p := .pointer (some ⟨b1, 0, none⟩)) rfl (by kernel_rfl) (run_loadA (k := 17) (by kernel_rfl) (by kernel_rfl) (hO.blk (List.mem_cons_of_mem _ List.mem_cons_self)) (by kernel_rfl) (by kernel_rfl))) ?_; clear hF; intro a hF
 refine Vp hF (.pointer (some ⟨b2, 0, none⟩)) ?_; clear hF; intro a hF
 refine Vr hF (ipV d.ip) (x_load (p := .pointer (some ⟨b2, 0, none⟩)) rfl (by kernel_rfl) (run_loadA (k := 17) (by kernel_rfl) (by kernel_rfl) (hO.blk List.mem_cons_self) (by kernel_rfl) (by kernel_rfl))) ?_; clear hF; intro a hF
 refine Lc hF (ref02_Compare c.ip d.ip W2) ?_
 clear hF; rintro _ W3 a ⟨rfl, hk⟩ hF
 replace hO := hO.call0 hk; clear hk
 refine Vp hF (.int .i64 ((refIp c.ip d.ip))) ?_; clear hF; intro a hF
 refine L_nil ?_
 refine hK3 _ _ ?_
 refine wp_seq_k fun K4 hK4 => ?_
 refine wp_region_lit ?_
 refine Vp hF (.int .i64 ((refIp c.ip d.ip))) ?_; clear hF; intro a hF
 refine Vp hF (.bool (!((refIp c.ip d.ip) == 0))) ?_; clear hF; intro a hF
 refine L_nil ?_
 refine hK4 _ _ ?_
 by_cases q1 : (refIp c.ip d.ip) = 0
 ·
  replace hF := hF.know (d := 12) (v' := .bool false) (by kernel_rfl) (congrArg Value.bool (neF (not_not_intro q1)))
  refine cond_f hF (by kernel_rfl) (by kernel_rfl) ?_
  refine wp_skip ?_
  refine hK2 _ _ ?_
  refine wp_seq_k fun K5 hK5 => ?_
  refine wp_seq_k fun K6 hK6 => ?_
  refine wp_region_lit ?_
  refine Vp hF (.pointer (some ⟨b1, 17, none⟩)) ?_; clear hF; intro a hF
  refine Vr hF (.int .i64 (c.port)) (x_load (p := .pointer (some ⟨b1, 17, none⟩)) rfl (by kernel_rfl) (run_load1 (by kernel_rfl) ((hO.cell (List.mem_cons_of_mem _ List.mem_cons_self)).trans (by kernel_rfl)))) ?_; clear hF; intro a hF
  refine Vp hF (.pointer (some ⟨b2, 17, none⟩)) ?_; clear hF; intro a hF
  refine Vr hF (.int .i64 (d.port)) (x_load (p := .pointer (some ⟨b2, 17, none⟩)) rfl (by kernel_rfl) (run_load1 (by kernel_rfl) ((hO.cell List.mem_cons_self).trans (by kernel_rfl)))) ?_; clear hF; intro a hF
  refine Vp hF (.bool (decide (c.port < d.port))) ?_; clear hF; intro a hF
  refine L_nil ?_
  refine hK6 _ _ ?_
  by_cases q2 : c.port < d.port
  ·
   replace hF := hF.know (d := 18) (v' := .bool true) (by kernel_rfl) (congrArg Value.bool (decide_eq_true q2))
   refine cond_t hF (by kernel_rfl) (by kernel_rfl) ?_
   refine wp_seq_k fun K7 hK7 => ?_
   refine wp_region_lit ?_
   refine Vp hF (.int .i64 (-1)) ?_; clear hF; intro a hF
   refine L_nil ?_
   refine hK7 _ _ ?_
   refine wp_ret ?_
   refine then_ret ?_
   refine ret1 hF (v := .int .i64 (-1)) rfl (resT (by kernel_rfl)) (by refine ⟨?_, hO.nil⟩; unfold cmpCd cmpInt; simp [*]) .ret (.inl rfl)
  ·
   replace hF := hF.know (d := 18) (v' := .bool false) (by kernel_rfl) (congrArg Value.bool (decide_eq_false q2))
   refine cond_f hF (by kernel_rfl) (by kernel_rfl) ?_
   refine wp_skip ?_
   refine hK5 _ _ ?_
   refine wp_seq_k fun K8 hK8 => ?_
   refine wp_seq_k fun K9 hK9 => ?_
   refine wp_region_lit ?_
   refine Vp hF (.pointer (some ⟨b1, 17, none⟩)) ?_; clear hF; intro a hF
   refine Vr hF (.int .i64 (c.port)) (x_load (p := .pointer (some ⟨b1, 17, none⟩)) rfl (by kernel_rfl) (run_load1 (by kernel_rfl) ((hO.cell (List.mem_cons_of_mem _ List.mem_cons_self)).trans (by kernel_rfl)))) ?_; clear hF; intro a hF
   refine Vp hF (.pointer (some ⟨b2, 17, none⟩)) ?_; clear hF; intro a hF
   refine Vr hF (.int .i64 (d.port)) (x_load (p := .pointer (some ⟨b2, 17, none⟩)) rfl (by kernel_rfl) (run_load1 (by kernel_rfl) ((hO.cell List.mem_cons_self).trans (by kernel_rfl)))) ?_; clear hF; intro a hF
   refine Vp hF (.bool (decide (c.port > d.port))) ?_; clear hF; intro a hF
   refine L_nil ?_
   refine hK9 _ _ ?_
   by_cases q3 : c.port > d.port
   ·
    replace hF := hF.know (d := 23) (v' := .bool true) (by kernel_rfl) (congrArg Value.bool (decide_eq_true q3))
    refine cond_t hF (by kernel_rfl) (by kernel_rfl) ?_
    refine wp_seq_k fun K10 hK10 => ?_
    refine wp_region_lit ?_
    refine Vp hF (.int .i64 1) ?_; clear hF; intro a hF
    refine L_nil ?_
    refine hK10 _ _ ?_
    refine wp_ret ?_
    refine then_ret ?_
    refine ret1 hF (v := .int .i64 1) rfl (resT (by kernel_rfl)) (by refine ⟨?_, hO.nil⟩; unfold cmpCd cmpInt; simp [*]) .ret (.inl rfl)
   ·
    replace hF := hF.know (d := 23) (v' := .bool false) (by kernel_rfl) (congrArg Value.bool (decide_eq_false q3))
    refine cond_f hF (by kernel_rfl) (by kernel_rfl) ?_
    refine wp_skip ?_
    refine hK8 _ _ ?_
    refine wp_seq_k fun K11 hK11 => ?_
    refine wp_region_lit ?_
    refine Vp hF (.int .i64 0) ?_; clear hF; intro a hF
    refine L_nil ?_
    refine hK11 _ _ ?_
    refine wp_ret ?_
    refine ret1 hF (v := .int .i64 0) rfl (resT (by kernel_rfl)) (by refine ⟨?_, hO.nil⟩; unfold cmpCd cmpInt; simp [*]) .ret (.inl rfl)
 ·
  replace hF := hF.know (d := 12) (v' := .bool true) (by kernel_rfl) (congrArg Value.bool (neT q1))
  refine cond_t hF (by kernel_rfl) (by kernel_rfl) ?_
  refine wp_seq_k fun K12 hK12 => ?_
  refine wp_region_lit ?_
  refine Vp hF (.int .i64 ((refIp c.ip d.ip))) ?_; clear hF; intro a hF
  refine Vp hF (.int .i64 ((refIp c.ip d.ip))) ?_; clear hF; intro a hF
  refine L_nil ?_
  refine hK12 _ _ ?_
  refine wp_ret ?_
  refine then_ret ?_
  refine ret1 hF (v := .int .i64 ((refIp c.ip d.ip))) rfl (resT (by kernel_rfl)) (by refine ⟨?_, hO.nil⟩; unfold cmpCd cmpInt; simp [*]) .ret (.inl rfl)

set_option maxRecDepth 20000 in
theorem ref03_Contains (c : Pt) (x : Ip) (W : World) : Ret Tryz.prog 58 #[ptV c, ipV x] W fun v W' => v = .bool (contCd c x) ∧ Own W noX [] W' := by
 refine enter Tryz.func58 rfl (n := 36) rfl (by kernel_rfl) (E0 := [(1, ipV x), (0, ptV c)]) (by kernel_rfl) ?_
 intro a hF; have hO := Own.start W noX
 refine wp_seq_k fun K1 hK1 => ?_
 refine wp_region_lit ?_
 refine L_new hF hO (by kernel_rfl) (by kernel_rfl) (vf := fun b => .pointer (some ⟨b, 0, none⟩)) (ob := .cells #[.bool c.ip.six, .int .u8 ((c.ip.b0.toNat : Int)), .int .u8 ((c.ip.b1.toNat : Int)), .int .u8 ((c.ip.b2.toNat : Int)), .int .u8 ((c.ip.b3.toNat : Int)), .int .u8 ((c.ip.b4.toNat : Int)), .int .u8 ((c.ip.b5.toNat : Int)), .int .u8 ((c.ip.b6.toNat : Int)), .int .u8 ((c.ip.b7.toNat : Int)), .int .u8 ((c.ip.b8.toNat : Int)), .int .u8 ((c.ip.b9.toNat : Int)), .int .u8 ((c.ip.b10.toNat : Int)), .int .u8 ((c.ip.b11.toNat : Int)), .int .u8 ((c.ip.b12.toNat : Int)), .int .u8 ((c.ip.b13.toNat : Int)), .int .u8 ((c.ip.b14.toNat : Int)), .int .u8 ((c.ip.b15.toNat : Int)), .int .i64 (c.port)] 68) (by kernel_rfl) (by kernel_rfl) ?_
 clear hF hO; intro b1 W1 a hO hF
 refine L_new hF hO (by kernel_rfl) (by kernel_rfl) (vf := fun b => .pointer (some ⟨b, 0, none⟩)) (ob := .cells #[.bool x.six, .int .u8 ((x.b0.toNat : Int)), .int .u8 ((x.b1.toNat : Int)), .int .u8 ((x.b2.toNat : Int)), .int .u8 ((x.b3.toNat : Int)), .int .u8 ((x.b4.toNat : Int)), .int .u8 ((x.b5.toNat : Int)), .int .u8 ((x.b6.toNat : Int)), .int .u8 ((x.b7.toNat : Int)), .int .u8 ((x.b8.toNat : Int)), .int .u8 ((x.b9.toNat : Int)), .int .u8 ((x.b10.toNat : Int)), .int .u8 ((x.b11.toNat : Int)), .int .u8 ((x.b12.toNat : Int)), .int .u8 ((x.b13.toNat : Int)), .int .u8 ((x.b14.toNat : Int)), .int .u8 ((x.b15.toNat : Int))] 33) (by kernel_rfl) (by kernel_rfl) ?_
 clear hF hO; intro b2 W2 a hO hF
 replace hO := hO.reblk (cs := #[.bool x.six, .int .u8 ((x.b0.toNat : Int)), .int .u8 ((x.b1.toNat : Int)), .int .u8 ((x.b2.toNat : Int)), .int .u8 ((x.b3.toNat : Int)), .int .u8 ((x.b4.toNat : Int)), .int .u8 ((x.b5.toNat : Int)), .int .u8 ((x.b6.toNat : Int)), .int .u8 ((x.b7.toNat : Int)), .int .u8 ((x.b8.toNat : Int)), .int .u8 ((x.b9.toNat : Int)), .int .u8 ((x.b10.toNat : Int)), .int .u8 ((x.b11.toNat : Int)), .int .u8 ((x.b12.toNat : Int)), .int .u8 ((x.b13.toNat : Int)), .int .u8 ((x.b14.toNat : Int)), .int .u8 ((x.b15.toNat : Int))]) (cs' := (ipL x).toArray) (by kernel_rfl) (.head _)
 refine Vp hF (.bool false) ?_; clear hF; intro a hF
 refine L_nil ?_
 refine hK1 _ _ ?_
 refine wp_seq_k fun K2 hK2 => ?_
 refine wp_seq_k fun K3 hK3 => ?_
 refine wp_region_lit ?_
 refine Vr hF (.agg #[.bool c.ip.six, .int .u8 ((c.ip.b0.toNat : Int)), .int .u8 ((c.ip.b1.toNat : Int)), .int .u8 ((c.ip.b2.toNat : Int)), .int .u8 ((c.ip.b3.toNat : Int)), .int .u8 ((c.ip.b4.toNat : Int)), .int .u8 ((c.ip.b5.toNat : Int)), .int .u8 ((c.ip.b6.toNat : Int)), .int .u8 ((c.ip.b7.toNat : Int)), .int .u8 ((c.ip.b8.toNat : Int)), .int .u8 ((c.ip.b9.toNat : Int)), .int .u8 ((c.ip.b10.toNat : Int)), .int .u8 ((c.ip.b11.toNat : Int)), .int .u8 ((c.ip.b12.toNat : Int)), .int .u8 ((c.ip.b13.toNat : Int)), .int .u8 ((c.ip.b14.toNat : Int)), .int .u8 ((c.ip.b15.toNat : Int)), .int .i64 (c.port)]) (x_load (p := .pointer (some ⟨b1, 0, none⟩)) rfl (by kernel_rfl) (run_loadA (k := 18) (by kernel_rfl) (by kernel_rfl) (hO.blk (List.mem_cons_of_mem _ List.mem_cons_self)) (by kernel_rfl) (by kernel_rfl))) ?_; clear hF; intro a hF
 refine Lc hF (ref03_Right c W2) ?_
 clear hF; rintro _ W3 a ⟨rfl, hk⟩ hF
 replace hO := hO.call0 hk; clear hk
 refine Vp hF (.bool (!(rightCd c))) ?_; clear hF; intro a hF
 refine Vp hF (.bool (!(rightCd c))) ?_; clear hF; intro a hF
 cases q1 : (rightCd c : Bool)
 ·
  replace hF := hF.know (d := 9) (v' := .bool true) (by kernel_rfl) (congrArg Value.bool (notT q1))
  refine Lo hF ?_; clear hF; intro a hF
  refine Lo hF ?_; clear hF; intro a hF
  refine Lo hF ?_; clear hF; intro a hF
  refine Vp hF (.bool true) ?_; clear hF; intro a hF
  refine Vp hF (.bool true) ?_; clear hF; intro a hF
  refine Lo hF ?_; clear hF; intro a hF
  refine Lo hF ?_; clear hF; intro a hF
  refine Lo hF ?_; clear hF; intro a hF
  refine Lo hF ?_; clear hF; intro a hF
  refine Lo hF ?_; clear hF; intro a hF
  refine Lo hF ?_; clear hF; intro a hF
  refine Vp hF (.bool true) ?_; clear hF; intro a hF
  refine L_nil ?_
  refine hK3 _ _ ?_
  refine cond_t hF (by kernel_rfl) (by kernel_rfl) ?_
  refine wp_seq_k fun K4 hK4 => ?_
  refine wp_region_lit ?_
  refine Vp hF (.bool false) ?_; clear hF; intro a hF
  refine L_nil ?_
  refine hK4 _ _ ?_
  refine wp_ret ?_
  refine then_ret ?_
  refine ret1 hF (v := .bool false) rfl (resT (by kernel_rfl)) (by refine ⟨?_, hO.nil⟩; first | exact congrArg Value.bool (cont_no (i := i) (by assumption) (by simp_all) (by omega) (by omega)).symm | exact congrArg Value.bool (cont_yes (i := i) (by assumption) (by assumption) (by simp_all) (by omega) hI.2).symm | (unfold contCd; simp_all)) .ret (.inl rfl)
 ·
  replace hF := hF.know (d := 9) (v' := .bool false) (by kernel_rfl) (congrArg Value.bool (notF q1))
  refine Vr hF (ipV x) (x_load (p := .pointer (some ⟨b2, 0, none⟩)) rfl (by kernel_rfl) (run_loadA (k := 17) (by kernel_rfl) (by kernel_rfl) (hO.blk List.mem_cons_self) (by kernel_rfl) (by kernel_rfl))) ?_; clear hF; intro a hF
  refine Lc hF (ref02_Right x W3) ?_
  clear hF; rintro _ W4 a ⟨rfl, hk⟩ hF
  replace hO := hO.call0 hk; clear hk
  refine Vp hF (.bool (!(rightIp x))) ?_; clear hF; intro a hF
  refine Vp hF (.bool (!(rightIp x))) ?_; clear hF; intro a hF
  refine Vp hF (.bool (!(rightIp x))) ?_; clear hF; intro a hF
  cases q2 : (rightIp x : Bool)
  ·
   replace hF := hF.know (d := 14) (v' := .bool true) (by kernel_rfl) (congrArg Value.bool (notT q2))
   refine Lo hF ?_; clear hF; intro a hF
   refine Lo hF ?_; clear hF; intro a hF
   refine Lo hF ?_; clear hF; intro a hF
   refine Lo hF ?_; clear hF; intro a hF
   refine Lo hF ?_; clear hF; intro a hF
   refine Lo hF ?_; clear hF; intro a hF
   refine Vp hF (.bool true) ?_; clear hF; intro a hF
   refine L_nil ?_
   refine hK3 _ _ ?_
   refine cond_t hF (by kernel_rfl) (by kernel_rfl) ?_
   refine wp_seq_k fun K5 hK5 => ?_
   refine wp_region_lit ?_
   refine Vp hF (.bool false) ?_; clear hF; intro a hF
   refine L_nil ?_
   refine hK5 _ _ ?_
   refine wp_ret ?_
   refine then_ret ?_
   refine ret1 hF (v := .bool false) rfl (resT (by kernel_rfl)) (by refine ⟨?_, hO.nil⟩; first | exact congrArg Value.bool (cont_no (i := i) (by assumption) (by simp_all) (by omega) (by omega)).symm | exact congrArg Value.bool (cont_yes (i := i) (by assumption) (by assumption) (by simp_all) (by omega) hI.2).symm | (unfold contCd; simp_all)) .ret (.inl rfl)
  ·
   replace hF := hF.know (d := 14) (v' := .bool false) (by kernel_rfl) (congrArg Value.bool (notF q2))
   refine Vp hF (.pointer (some ⟨b2, 0, none⟩)) ?_; clear hF; intro a hF
   refine Vr hF (.bool x.six) (x_load (p := .pointer (some ⟨b2, 0, none⟩)) rfl (by kernel_rfl) (run_load1 (by kernel_rfl) ((hO.cell List.mem_cons_self).trans (by kernel_rfl)))) ?_; clear hF; intro a hF
   refine Vp hF (.pointer (some ⟨b1, 0, none⟩)) ?_; clear hF; intro a hF
   refine Vp hF (.pointer (some ⟨b1, 0, none⟩)) ?_; clear hF; intro a hF
   refine Vr hF (.bool c.ip.six) (x_load (p := .pointer (some ⟨b1, 0, none⟩)) rfl (by kernel_rfl) (run_load1 (by kernel_rfl) ((hO.cell (List.mem_cons_of_mem _ List.mem_cons_self)).trans (by kernel_rfl)))) ?_; clear hF; intro a hF
   refine Vp hF (.bool (!(x.six == c.ip.six))) ?_; clear hF; intro a hF
   refine Vp hF (.bool (!(x.six == c.ip.six))) ?_; clear hF; intro a hF
   refine L_nil ?_
   refine hK3 _ _ ?_
   cases q3 : (!(x.six == c.ip.six) : Bool)
   ·
    replace hF := hF.know (d := 21) (v' := .bool false) (by kernel_rfl) (congrArg Value.bool q3)
    refine cond_f hF (by kernel_rfl) (by kernel_rfl) ?_
    refine wp_skip ?_
    refine hK2 _ _ ?_
    refine wp_seq_k fun K6 hK6 => ?_
    refine wp_seq_k fun K7 hK7 => ?_
    refine wp_region_lit ?_
    refine Vp hF (.int .i64 0) ?_; clear hF; intro a hF
    refine L_nil ?_
    refine hK7 _ _ ?_
    refine wp_block ?_
    refine loopX (τ := Nat) (fun (i : Nat) a Wx => ((i : Int) ≤ c.port ∧ ∀ j : Nat, j < i → bitAt x j = bitAt c.ip j) ∧ Fr 36 a [(2, .pointer (some ⟨b1, 0, none⟩)), (3, .pointer (some ⟨b2, 0, none⟩)), (5, .int .i64 ((i : Int)))] ∧ Own W noX [.blk b2 (.cells (ipL x).toArray 33 (0, 0)), .blk b1 (.cells #[.bool c.ip.six, .int .u8 ((c.ip.b0.toNat : Int)), .int .u8 ((c.ip.b1.toNat : Int)), .int .u8 ((c.ip.b2.toNat : Int)), .int .u8 ((c.ip.b3.toNat : Int)), .int .u8 ((c.ip.b4.toNat : Int)), .int .u8 ((c.ip.b5.toNat : Int)), .int .u8 ((c.ip.b6.toNat : Int)), .int .u8 ((c.ip.b7.toNat : Int)), .int .u8 ((c.ip.b8.toNat : Int)), .int .u8 ((c.ip.b9.toNat : Int)), .int .u8 ((c.ip.b10.toNat : Int)), .int .u8 ((c.ip.b11.toNat : Int)), .int .u8 ((c.ip.b12.toNat : Int)), .int .u8 ((c.ip.b13.toNat : Int)), .int .u8 ((c.ip.b14.toNat : Int)), .int .u8 ((c.ip.b15.toNat : Int)), .int .i64 (c.port)] 68 (0, 0))] Wx) (fun (i : Nat) => c.port.toNat - i) (0) ⟨⟨by have hb := rightCd_bd (c := c) (by assumption); omega, fun j h1 => by omega⟩, ?_, ?_⟩ ?_
    · exact hF.restrict ⟨(by kernel_rfl), (by kernel_rfl), (congrArg some (by first | rfl | exact congrArg (Value.int _) (by omega) | simp)), trivial⟩
    · exact hO.sub (.cons_cons _ (.cons_cons _ (List.nil_sublist _)))
    clear hF hO; rintro i a Wl1 ⟨hI, hF, hO⟩ KhK_1 hK_1
    try dsimp only at hI
    refine wp_seq_k fun K8 hK8 => ?_
    refine wp_seq_k fun K9 hK9 => ?_
    refine wp_region_lit ?_
    refine Vp hF (.int .i64 ((i : Int))) ?_; clear hF; intro a hF
    refine Vp hF (.pointer (some ⟨b1, 17, none⟩)) ?_; clear hF; intro a hF
    refine Vr hF (.int .i64 (c.port)) (x_load (p := .pointer (some ⟨b1, 17, none⟩)) rfl (by kernel_rfl) (run_load1 (by kernel_rfl) ((hO.cell (List.mem_cons_of_mem _ List.mem_cons_self)).trans (by kernel_rfl)))) ?_; clear hF; intro a hF
    refine Vp hF (.bool (decide ((i : Int) < c.port))) ?_; clear hF; intro a hF
    refine L_nil ?_
    refine hK9 _ _ ?_
    by_cases q4 : (i : Int) < c.port
    ·
     replace hF := hF.know (d := 25) (v' := .bool true) (by kernel_rfl) (congrArg Value.bool (decide_eq_true q4))
     refine cond_t hF (by kernel_rfl) (by kernel_rfl) ?_
     refine wp_skip ?_
     refine hK8 _ _ ?_
     refine wp_seq_k fun K10 hK10 => ?_
     refine wp_block ?_
     refine wp_seq_k fun K11 hK11 => ?_
     refine A_start (fun Wx => Own W noX [.blk b2 (.cells (ipL x).toArray 33 (0, 0)), .blk b1 (.cells #[.bool c.ip.six, .int .u8 ((c.ip.b0.toNat : Int)), .int .u8 ((c.ip.b1.toNat : Int)), .int .u8 ((c.ip.b2.toNat : Int)), .int .u8 ((c.ip.b3.toNat : Int)), .int .u8 ((c.ip.b4.toNat : Int)), .int .u8 ((c.ip.b5.toNat : Int)), .int .u8 ((c.ip.b6.toNat : Int)), .int .u8 ((c.ip.b7.toNat : Int)), .int .u8 ((c.ip.b8.toNat : Int)), .int .u8 ((c.ip.b9.toNat : Int)), .int .u8 ((c.ip.b10.toNat : Int)), .int .u8 ((c.ip.b11.toNat : Int)), .int .u8 ((c.ip.b12.toNat : Int)), .int .u8 ((c.ip.b13.toNat : Int)), .int .u8 ((c.ip.b14.toNat : Int)), .int .u8 ((c.ip.b15.toNat : Int)), .int .i64 (c.port)] 68 (0, 0))] Wx) (by kernel_rfl) ?_
     replace hO := hO.drewN 1
     generalize hWd : ({ Wl1 with drawn := Wl1.drawn + 1 } : World) = Wl1_d at hO ⊢; clear hWd
     have hS := hO.sub (.cons_cons _ (.cons_cons _ (List.nil_sublist _)))
     refine Tk 0 rfl hF (ipV x) (fun Wx hO => x_load (p := .pointer (some ⟨b2, 0, none⟩)) rfl (by kernel_rfl) (run_loadA (k := 17) (by kernel_rfl) (by kernel_rfl) (hO.blk List.mem_cons_self) (by kernel_rfl) (by kernel_rfl))) hS ?_; clear hF; intro a hF
     refine Tk 1 rfl hF (.int .i64 ((i : Int))) (fun Wx _ => by kernel_rfl) hS ?_; clear hF; intro a hF
     refine Tk 3 rfl hF (.pointer (some ⟨b1, 0, none⟩)) (fun Wx _ => by kernel_rfl) hS ?_; clear hF; intro a hF
     refine Tk 4 rfl hF (ipV c.ip) (fun Wx hO => x_load (p := .pointer (some ⟨b1, 0, none⟩)) rfl (by kernel_rfl) (run_loadA (k := 17) (by kernel_rfl) (by kernel_rfl) (hO.blk (List.mem_cons_of_mem _ List.mem_cons_self)) (by kernel_rfl) (by kernel_rfl))) hS ?_; clear hF; intro a hF
     refine Tk 5 rfl hF (.int .i64 ((i : Int))) (fun Wx _ => by kernel_rfl) hS ?_; clear hF; intro a hF
     refine A_one (i := 2) (listed' := #[true, true, true, true, true, true, false, false]) (by kernel_rfl) rfl (by kernel_rfl) ?_
     refine OpK.lc hF (ref03_bit x i Wl1_d (by (first | omega | (have hb := rightCd_bd (c := c) (by assumption); have hw := width_le c.ip; omega)))) ?_
     clear hF; rintro _ W5 a ⟨rfl, hk⟩ hF
     replace hO := hO.call0 hk; clear hk
     refine ⟨hO.sub (.cons_cons _ (.cons_cons _ (List.nil_sublist _))), ?_⟩
     refine A_one (i := 6) (listed' := #[true, true, true, true, true, true, true, false]) (by kernel_rfl) rfl (by kernel_rfl) ?_
     refine OpK.lc hF (ref03_bit c.ip i W5 (by (first | omega | (have hb := rightCd_bd (c := c) (by assumption); have hw := width_le c.ip; omega)))) ?_
     clear hF; rintro _ W6 a ⟨rfl, hk⟩ hF
     replace hO := hO.call0 hk; clear hk
     refine ⟨hO.sub (.cons_cons _ (.cons_cons _ (List.nil_sublist _))), ?_⟩
     have hS := hO.sub (.cons_cons _ (.cons_cons _ (List.nil_sublist _)))
     refine Tk 7 rfl hF (.bool (!((bitAt x i : Int) == (bitAt c.ip i : Int)))) (fun Wx _ => by kernel_rfl) hS ?_; clear hF; intro a hF
     refine A_done (by kernel_rfl) ?_
     refine hK11 _ _ ?_
     by_cases q5 : (bitAt x i : Int) = (bitAt c.ip i : Int)
     ·
      replace hF := hF.know (d := 35) (v' := .bool false) (by kernel_rfl) (congrArg Value.bool (neF (not_not_intro q5)))
      refine cond_f hF (by kernel_rfl) (by kernel_rfl) ?_
      refine wp_skip ?_
      refine block_normal ?_
      refine hK10 _ _ ?_
      refine wp_region_lit ?_
      refine Vp hF (.int .i64 ((i : Int))) ?_; clear hF; intro a hF
      refine Vr hF (.int .i64 ((i : Int) + 1)) (x_int (x := IntKind.i64.wrap ((i : Int) + 1)) (i64In (by (first | omega | (have hb := rightCd_bd (c := c) (by assumption); have hw := width_le c.ip; omega))) (by (first | omega | (have hb := rightCd_bd (c := c) (by assumption); have hw := width_le c.ip; omega)))) (by kernel_rfl)) ?_; clear hF; intro a hF
      refine Vp hF (.int .i64 ((i : Int) + 1)) ?_; clear hF; intro a hF
      refine L_nil ?_
      refine hK_1 (i + 1) _ _ (by first | omega | (dsimp only; omega)) ⟨⟨by omega, fun j h1 => by rcases Nat.lt_or_ge j i with h | h; exact hI.2 j h; obtain rfl : j = i := (by omega); omega⟩, ?_, ?_⟩
      · exact hF.restrict ⟨(by kernel_rfl), (by kernel_rfl), (congrArg some (by first | rfl | exact congrArg (Value.int _) (by omega) | simp)), trivial⟩
      · exact hO.sub (.cons_cons _ (.cons_cons _ (List.nil_sublist _)))
     ·
      replace hF := hF.know (d := 35) (v' := .bool true) (by kernel_rfl) (congrArg Value.bool (neT q5))
      refine cond_t hF (by kernel_rfl) (by kernel_rfl) ?_
      refine wp_seq_k fun K12 hK12 => ?_
      refine wp_region_lit ?_
      refine Vp hF (.bool false) ?_; clear hF; intro a hF
      refine L_nil ?_
      refine hK12 _ _ ?_
      refine wp_ret ?_
      refine block_ret ?_
      refine then_ret ?_
      refine then_ret ?_
      refine block_ret ?_
      refine then_ret ?_
      refine ret1 hF (v := .bool false) rfl (resT (by kernel_rfl)) (by refine ⟨?_, hO.nil⟩; first | exact congrArg Value.bool (cont_no (i := i) (by assumption) (by simp_all) (by omega) (by omega)).symm | exact congrArg Value.bool (cont_yes (i := i) (by assumption) (by assumption) (by simp_all) (by omega) hI.2).symm | (unfold contCd; simp_all)) .ret (.inl rfl)
    ·
     replace hF := hF.know (d := 25) (v' := .bool false) (by kernel_rfl) (congrArg Value.bool (decide_eq_false q4))
     refine cond_f hF (by kernel_rfl) (by kernel_rfl) ?_
     refine wp_exit ?_
     refine then_exit ?_
     refine then_exit ?_
     refine inBlock_hit ?_
     refine hK6 _ _ ?_
     refine wp_seq_k fun K13 hK13 => ?_
     refine wp_region_lit ?_
     refine Vp hF (.bool true) ?_; clear hF; intro a hF
     refine L_nil ?_
     refine hK13 _ _ ?_
     refine wp_ret ?_
     refine ret1 hF (v := .bool true) rfl (resT (by kernel_rfl)) (by refine ⟨?_, hO.nil⟩; first | exact congrArg Value.bool (cont_no (i := i) (by assumption) (by simp_all) (by omega) (by omega)).symm | exact congrArg Value.bool (cont_yes (i := i) (by assumption) (by assumption) (by simp_all) (by omega) hI.2).symm | (unfold contCd; simp_all)) .ret (.inl rfl)
   ·
    replace hF := hF.know (d := 21) (v' := .bool true) (by kernel_rfl) (congrArg Value.bool q3)
    refine cond_t hF (by kernel_rfl) (by kernel_rfl) ?_
    refine wp_seq_k fun K14 hK14 => ?_
    refine wp_region_lit ?_
    refine Vp hF (.bool false) ?_; clear hF; intro a hF
    refine L_nil ?_
    refine hK14 _ _ ?_
    refine wp_ret ?_
    refine then_ret ?_
    refine ret1 hF (v := .bool false) rfl (resT (by kernel_rfl)) (by refine ⟨?_, hO.nil⟩; first | exact congrArg Value.bool (cont_no (i := i) (by assumption) (by simp_all) (by omega) (by omega)).symm | exact congrArg Value.bool (cont_yes (i := i) (by assumption) (by assumption) (by simp_all) (by omega) hI.2).symm | (unfold contCd; simp_all)) .ret (.inl rfl)

set_option maxRecDepth 20000 in
theorem ref03_Covers (c d : Pt) (W : World) : Ret Tryz.prog 60 #[ptV c, ptV d] W fun v W' => v = .bool (covCd c d) ∧ Own W noX [] W' := by
 refine enter Tryz.func60 rfl (n := 20) rfl (by kernel_rfl) (E0 := [(1, ptV d), (0, ptV c)]) (by kernel_rfl) ?_
 intro a hF; have hO := Own.start W noX
 refine wp_seq_k fun K1 hK1 => ?_
 refine wp_region_lit ?_
 refine L_new hF hO (by kernel_rfl) (by kernel_rfl) (vf := fun b => .pointer (some ⟨b, 0, none⟩)) (ob := .cells #[.bool c.ip.six, .int .u8 ((c.ip.b0.toNat : Int)), .int .u8 ((c.ip.b1.toNat : Int)), .int .u8 ((c.ip.b2.toNat : Int)), .int .u8 ((c.ip.b3.toNat : Int)), .int .u8 ((c.ip.b4.toNat : Int)), .int .u8 ((c.ip.b5.toNat : Int)), .int .u8 ((c.ip.b6.toNat : Int)), .int .u8 ((c.ip.b7.toNat : Int)), .int .u8 ((c.ip.b8.toNat : Int)), .int .u8 ((c.ip.b9.toNat : Int)), .int .u8 ((c.ip.b10.toNat : Int)), .int .u8 ((c.ip.b11.toNat : Int)), .int .u8 ((c.ip.b12.toNat : Int)), .int .u8 ((c.ip.b13.toNat : Int)), .int .u8 ((c.ip.b14.toNat : Int)), .int .u8 ((c.ip.b15.toNat : Int)), .int .i64 (c.port)] 68) (by kernel_rfl) (by kernel_rfl) ?_
 clear hF hO; intro b1 W1 a hO hF
 refine L_new hF hO (by kernel_rfl) (by kernel_rfl) (vf := fun b => .pointer (some ⟨b, 0, none⟩)) (ob := .cells #[.bool d.ip.six, .int .u8 ((d.ip.b0.toNat : Int)), .int .u8 ((d.ip.b1.toNat : Int)), .int .u8 ((d.ip.b2.toNat : Int)), .int .u8 ((d.ip.b3.toNat : Int)), .int .u8 ((d.ip.b4.toNat : Int)), .int .u8 ((d.ip.b5.toNat : Int)), .int .u8 ((d.ip.b6.toNat : Int)), .int .u8 ((d.ip.b7.toNat : Int)), .int .u8 ((d.ip.b8.toNat : Int)), .int .u8 ((d.ip.b9.toNat : Int)), .int .u8 ((d.ip.b10.toNat : Int)), .int .u8 ((d.ip.b11.toNat : Int)), .int .u8 ((d.ip.b12.toNat : Int)), .int .u8 ((d.ip.b13.toNat : Int)), .int .u8 ((d.ip.b14.toNat : Int)), .int .u8 ((d.ip.b15.toNat : Int)), .int .i64 (d.port)] 68) (by kernel_rfl) (by kernel_rfl) ?_
 clear hF hO; intro b2 W2 a hO hF
 refine Vp hF (.bool false) ?_; clear hF; intro a hF
 refine L_nil ?_
 refine hK1 _ _ ?_
 refine wp_seq_k fun K2 hK2 => ?_
 refine wp_region_lit ?_
 refine Vr hF (.agg #[.bool d.ip.six, .int .u8 ((d.ip.b0.toNat : Int)), .int .u8 ((d.ip.b1.toNat : Int)), .int .u8 ((d.ip.b2.toNat : Int)), .int .u8 ((d.ip.b3.toNat : Int)), .int .u8 ((d.ip.b4.toNat : Int)), .int .u8 ((d.ip.b5.toNat : Int)), .int .u8 ((d.ip.b6.toNat : Int)), .int .u8 ((d.ip.b7.toNat : Int)), .int .u8 ((d.ip.b8.toNat : Int)), .int .u8 ((d.ip.b9.toNat : Int)), .int .u8 ((d.ip.b10.toNat : Int)), .int .u8 ((d.ip.b11.toNat : Int)), .int .u8 ((d.ip.b12.toNat : Int)), .int .u8 ((d.ip.b13.toNat : Int)), .int .u8 ((d.ip.b14.toNat : Int)), .int .u8 ((d.ip.b15.toNat : Int)), .int .i64 (d.port)]) (x_load (p := .pointer (some ⟨b2, 0, none⟩)) rfl (by kernel_rfl) (run_loadA (k := 18) (by kernel_rfl) (by kernel_rfl) (hO.blk List.mem_cons_self) (by kernel_rfl) (by kernel_rfl))) ?_; clear hF; intro a hF
 refine Lc hF (ref03_Right d W2) ?_
 clear hF; rintro _ W3 a ⟨rfl, hk⟩ hF
 replace hO := hO.call0 hk; clear hk
 refine Vp hF (.bool (rightCd d)) ?_; clear hF; intro a hF
 cases q1 : (rightCd d : Bool)
 ·
  replace hF := hF.know (d := 7) (v' := .bool false) (by kernel_rfl) (congrArg Value.bool q1)
  refine Lo hF ?_; clear hF; intro a hF
  refine Lo hF ?_; clear hF; intro a hF
  refine Lo hF ?_; clear hF; intro a hF
  refine Lo hF ?_; clear hF; intro a hF
  refine Vp hF (.bool false) ?_; clear hF; intro a hF
  refine Vp hF (.bool false) ?_; clear hF; intro a hF
  refine Lo hF ?_; clear hF; intro a hF
  refine Lo hF ?_; clear hF; intro a hF
  refine Lo hF ?_; clear hF; intro a hF
  refine Lo hF ?_; clear hF; intro a hF
  refine Lo hF ?_; clear hF; intro a hF
  refine Vp hF (.bool false) ?_; clear hF; intro a hF
  refine Vp hF (.bool false) ?_; clear hF; intro a hF
  refine L_nil ?_
  refine hK2 _ _ ?_
  refine wp_ret ?_
  refine ret1 hF (v := .bool false) rfl (resT (by kernel_rfl)) (by refine ⟨?_, hO.nil⟩; unfold covCd; simp_all) .ret (.inl rfl)
 ·
  replace hF := hF.know (d := 7) (v' := .bool true) (by kernel_rfl) (congrArg Value.bool q1)
  refine Vr hF (.agg #[.bool c.ip.six, .int .u8 ((c.ip.b0.toNat : Int)), .int .u8 ((c.ip.b1.toNat : Int)), .int .u8 ((c.ip.b2.toNat : Int)), .int .u8 ((c.ip.b3.toNat : Int)), .int .u8 ((c.ip.b4.toNat : Int)), .int .u8 ((c.ip.b5.toNat : Int)), .int .u8 ((c.ip.b6.toNat : Int)), .int .u8 ((c.ip.b7.toNat : Int)), .int .u8 ((c.ip.b8.toNat : Int)), .int .u8 ((c.ip.b9.toNat : Int)), .int .u8 ((c.ip.b10.toNat : Int)), .int .u8 ((c.ip.b11.toNat : Int)), .int .u8 ((c.ip.b12.toNat : Int)), .int .u8 ((c.ip.b13.toNat : Int)), .int .u8 ((c.ip.b14.toNat : Int)), .int .u8 ((c.ip.b15.toNat : Int)), .int .i64 (c.port)]) (x_load (p := .pointer (some ⟨b1, 0, none⟩)) rfl (by kernel_rfl) (run_loadA (k := 18) (by kernel_rfl) (by kernel_rfl) (hO.blk (List.mem_cons_of_mem _ List.mem_cons_self)) (by kernel_rfl) (by kernel_rfl))) ?_; clear hF; intro a hF
  refine Vp hF (.pointer (some ⟨b2, 0, none⟩)) ?_; clear hF; intro a hF
  refine Vr hF (ipV d.ip) (x_load (p := .pointer (some ⟨b2, 0, none⟩)) rfl (by kernel_rfl) (run_loadA (k := 17) (by kernel_rfl) (by kernel_rfl) (hO.blk List.mem_cons_self) (by kernel_rfl) (by kernel_rfl))) ?_; clear hF; intro a hF
  refine Lc hF (ref03_Contains c d.ip W3) ?_
  clear hF; rintro _ W4 a ⟨rfl, hk⟩ hF
  replace hO := hO.call0 hk; clear hk
  refine Vp hF (.bool (contCd c d.ip)) ?_; clear hF; intro a hF
  refine Vp hF (.bool (contCd c d.ip)) ?_; clear hF; intro a hF
  cases q2 : (contCd c d.ip : Bool)
  ·
   replace hF := hF.know (d := 13) (v' := .bool false) (by kernel_rfl) (congrArg Value.bool q2)
   refine Lo hF ?_; clear hF; intro a hF
   refine Lo hF ?_; clear hF; intro a hF
   refine Lo hF ?_; clear hF; intro a hF
   refine Lo hF ?_; clear hF; intro a hF
   refine Lo hF ?_; clear hF; intro a hF
   refine Vp hF (.bool false) ?_; clear hF; intro a hF
   refine Vp hF (.bool false) ?_; clear hF; intro a hF
   refine L_nil ?_
   refine hK2 _ _ ?_
   refine wp_ret ?_
   refine ret1 hF (v := .bool false) rfl (resT (by kernel_rfl)) (by refine ⟨?_, hO.nil⟩; unfold covCd; simp_all) .ret (.inl rfl)
  ·
   replace hF := hF.know (d := 13) (v' := .bool true) (by kernel_rfl) (congrArg Value.bool q2)
   refine Vp hF (.pointer (some ⟨b1, 17, none⟩)) ?_; clear hF; intro a hF
   refine Vr hF (.int .i64 (c.port)) (x_load (p := .pointer (some ⟨b1, 17, none⟩)) rfl (by kernel_rfl) (run_load1 (by kernel_rfl) ((hO.cell (List.mem_cons_of_mem _ List.mem_cons_self)).trans (by kernel_rfl)))) ?_; clear hF; intro a hF
   refine Vp hF (.pointer (some ⟨b2, 17, none⟩)) ?_; clear hF; intro a hF
   refine Vr hF (.int .i64 (d.port)) (x_load (p := .pointer (some ⟨b2, 17, none⟩)) rfl (by kernel_rfl) (run_load1 (by kernel_rfl) ((hO.cell List.mem_cons_self).trans (by kernel_rfl)))) ?_; clear hF; intro a hF
   refine Vp hF (.bool (decide (c.port ≤ d.port))) ?_; clear hF; intro a hF
   refine Vp hF (.bool (decide (c.port ≤ d.port))) ?_; clear hF; intro a hF
   refine Vp hF (.bool (decide (c.port ≤ d.port))) ?_; clear hF; intro a hF
   refine L_nil ?_
   refine hK2 _ _ ?_
   refine wp_ret ?_
   refine ret1 hF (v := .bool (decide (c.port ≤ d.port))) rfl (resT (by kernel_rfl)) (by refine ⟨?_, hO.nil⟩; unfold covCd; simp_all) .ret (.inl rfl)

set_option maxRecDepth 20000 in
theorem ref03_Cut (x : Ip) (n : Nat) (W : World) (hn : n ≤ 128) : Ret Tryz.prog 65 #[ipV x, .int .i64 ((n : Int))] W fun v W' => v = ipV (cutIp x n) ∧ Own W noX [] W' := by
 refine enter Tryz.func65 rfl (n := 32) rfl (by kernel_rfl) (E0 := [(1, .int .i64 ((n : Int))), (0, ipV x)]) (by kernel_rfl) ?_
 intro a hF; have hO := Own.start W noX
 refine wp_seq_k fun K1 hK1 => ?_
 refine wp_region_lit ?_
 refine L_new hF hO (by kernel_rfl) (by kernel_rfl) (vf := fun b => .pointer (some ⟨b, 0, none⟩)) (ob := .cells #[.bool x.six, .int .u8 ((x.b0.toNat : Int)), .int .u8 ((x.b1.toNat : Int)), .int .u8 ((x.b2.toNat : Int)), .int .u8 ((x.b3.toNat : Int)), .int .u8 ((x.b4.toNat : Int)), .int .u8 ((x.b5.toNat : Int)), .int .u8 ((x.b6.toNat : Int)), .int .u8 ((x.b7.toNat : Int)), .int .u8 ((x.b8.toNat : Int)), .int .u8 ((x.b9.toNat : Int)), .int .u8 ((x.b10.toNat : Int)), .int .u8 ((x.b11.toNat : Int)), .int .u8 ((x.b12.toNat : Int)), .int .u8 ((x.b13.toNat : Int)), .int .u8 ((x.b14.toNat : Int)), .int .u8 ((x.b15.toNat : Int))] 33) (by kernel_rfl) (by kernel_rfl) ?_
 clear hF hO; intro b1 W1 a hO hF
 replace hO := hO.reblk (cs := #[.bool x.six, .int .u8 ((x.b0.toNat : Int)), .int .u8 ((x.b1.toNat : Int)), .int .u8 ((x.b2.toNat : Int)), .int .u8 ((x.b3.toNat : Int)), .int .u8 ((x.b4.toNat : Int)), .int .u8 ((x.b5.toNat : Int)), .int .u8 ((x.b6.toNat : Int)), .int .u8 ((x.b7.toNat : Int)), .int .u8 ((x.b8.toNat : Int)), .int .u8 ((x.b9.toNat : Int)), .int .u8 ((x.b10.toNat : Int)), .int .u8 ((x.b11.toNat : Int)), .int .u8 ((x.b12.toNat : Int)), .int .u8 ((x.b13.toNat : Int)), .int .u8 ((x.b14.toNat : Int)), .int .u8 ((x.b15.toNat : Int))]) (cs' := (ipL x).toArray) (by kernel_rfl) (.head _)
 refine L_new hF hO (by kernel_rfl) (by kernel_rfl) (vf := fun b => .pointer (some ⟨b, 0, none⟩)) (ob := .cells #[.bool false, .int .u8 0, .int .u8 0, .int .u8 0, .int .u8 0, .int .u8 0, .int .u8 0, .int .u8 0, .int .u8 0, .int .u8 0, .int .u8 0, .int .u8 0, .int .u8 0, .int .u8 0, .int .u8 0, .int .u8 0, .int .u8 0] 33) (by kernel_rfl) (by kernel_rfl) ?_
 clear hF hO; intro b2 W2 a hO hF
 refine L_nil ?_
 refine hK1 _ _ ?_
 refine wp_seq_k fun K2 hK2 => ?_
 refine wp_region_lit ?_
 refine Vp hF (.pointer (some ⟨b1, 0, none⟩)) ?_; clear hF; intro a hF
 refine Vr hF (.bool x.six) (x_load (p := .pointer (some ⟨b1, 0, none⟩)) rfl (by kernel_rfl) (run_load1 (by kernel_rfl) ((hO.cell (List.mem_cons_of_mem _ List.mem_cons_self)).trans (by kernel_rfl)))) ?_; clear hF; intro a hF
 refine Vp hF (.agg #[.bool x.six, .int .u8 0, .int .u8 0, .int .u8 0, .int .u8 0, .int .u8 0, .int .u8 0, .int .u8 0, .int .u8 0, .int .u8 0, .int .u8 0, .int .u8 0, .int .u8 0, .int .u8 0, .int .u8 0, .int .u8 0, .int .u8 0]) ?_; clear hF; intro a hF
 refine L_new hF hO (by kernel_rfl) (by kernel_rfl) (vf := fun b => .pointer (some ⟨b, 0, none⟩)) (ob := .cells #[.bool false, .int .u8 0, .int .u8 0, .int .u8 0, .int .u8 0, .int .u8 0, .int .u8 0, .int .u8 0, .int .u8 0, .int .u8 0, .int .u8 0, .int .u8 0, .int .u8 0, .int .u8 0, .int .u8 0, .int .u8 0, .int .u8 0] 33) (by kernel_rfl) (by kernel_rfl) ?_
 clear hF hO; intro b3 W3 a hO hF
 obtain ⟨W4, hst, hO1⟩ := run_storeAt (P := Tryz.prog) (k := 17) (T := 33) (off := 0) (v := .agg #[.bool x.six, .int .u8 0, .int .u8 0, .int .u8 0, .int .u8 0, .int .u8 0, .int .u8 0, .int .u8 0, .int .u8 0, .int .u8 0, .int .u8 0, .int .u8 0, .int .u8 0, .int .u8 0, .int .u8 0, .int .u8 0, .int .u8 0]) (cs := #[.bool false, .int .u8 0, .int .u8 0, .int .u8 0, .int .u8 0, .int .u8 0, .int .u8 0, .int .u8 0, .int .u8 0, .int .u8 0, .int .u8 0, .int .u8 0, .int .u8 0, .int .u8 0, .int .u8 0, .int .u8 0, .int .u8 0]) (cs' := #[.bool x.six, .int .u8 0, .int .u8 0, .int .u8 0, .int .u8 0, .int .u8 0, .int .u8 0, .int .u8 0, .int .u8 0, .int .u8 0, .int .u8 0, .int .u8 0, .int .u8 0, .int .u8 0, .int .u8 0, .int .u8 0, .int .u8 0]) hO (by kernel_rfl) (by kernel_rfl) (by kernel_rfl) (Nat.le_of_ble_eq_true (by kernel_rfl)) (by kernel_rfl) (.head _)
 refine L_skip hF (by kernel_rfl) (by kernel_rfl) (x_store (p := .pointer (some ⟨b3, 0, none⟩)) (v := .agg #[.bool x.six, .int .u8 0, .int .u8 0, .int .u8 0, .int .u8 0, .int .u8 0, .int .u8 0, .int .u8 0, .int .u8 0, .int .u8 0, .int .u8 0, .int .u8 0, .int .u8 0, .int .u8 0, .int .u8 0, .int .u8 0, .int .u8 0]) rfl (by kernel_rfl) (by kernel_rfl) hst) (by kernel_rfl) ?_
 clear hst hF; intro a hF; replace hO := hO1; clear hO1
 refine L_nil ?_
 refine hK2 _ _ ?_
 refine wp_seq_k fun K3 hK3 => ?_
 refine wp_seq_k fun K4 hK4 => ?_
 refine wp_region_lit ?_
 refine Vp hF (.int .i64 0) ?_; clear hF; intro a hF
 refine L_nil ?_
 refine hK4 _ _ ?_
 refine wp_block ?_
 replace hO := hO.reblk (cs := #[.bool x.six, .int .u8 0, .int .u8 0, .int .u8 0, .int .u8 0, .int .u8 0, .int .u8 0, .int .u8 0, .int .u8 0, .int .u8 0, .int .u8 0, .int .u8 0, .int .u8 0, .int .u8 0, .int .u8 0, .int .u8 0, .int .u8 0]) (cs' := (ipL (⟨x.six, 0, 0, 0, 0, 0, 0, 0, 0, 0, 0, 0, 0, 0, 0, 0, 0⟩ : Ip)).toArray) (by kernel_rfl) (.head _)
 refine loopX (τ := Nat) (fun (i : Nat) a Wx => (i ≤ n) ∧ Fr 32 a [(1, .int .i64 ((n : Int))), (2, .pointer (some ⟨b1, 0, none⟩)), (4, .pointer (some ⟨b2, 0, none⟩)), (5, .pointer (some ⟨b3, 0, none⟩)), (6, .int .i64 ((i : Int)))] ∧ Own W noX [.blk b3 (.cells (ipL (rcut x i)).toArray 33 (0, 0)), .blk b2 (.cells #[.bool false, .int .u8 0, .int .u8 0, .int .u8 0, .int .u8 0, .int .u8 0, .int .u8 0, .int .u8 0, .int .u8 0, .int .u8 0, .int .u8 0, .int .u8 0, .int .u8 0, .int .u8 0, .int .u8 0, .int .u8 0, .int .u8 0] 33 (0, 0)), .blk b1 (.cells (ipL x).toArray 33 (0, 0))] Wx) (fun (i : Nat) => n - i) (0) ⟨by omega, ?_, ?_⟩ ?_
 · exact hF.restrict ⟨(by kernel_rfl), (by kernel_rfl), (by kernel_rfl), (by kernel_rfl), (congrArg some (by first | rfl | exact congrArg (Value.int _) (by omega) | simp)), trivial⟩
 · exact hO.sub (.cons_cons _ (.cons_cons _ (.cons_cons _ (List.nil_sublist _))))
 clear hF hO; rintro i a Wl1 ⟨hI, hF, hO⟩ KhK_1 hK_1
 try dsimp only at hI
 refine wp_seq_k fun K5 hK5 => ?_
 refine wp_seq_k fun K6 hK6 => ?_
 refine wp_region_lit ?_
 refine Vp hF (.int .i64 ((i : Int))) ?_; clear hF; intro a hF
 refine Vp hF (.int .i64 ((n : Int))) ?_; clear hF; intro a hF
 refine Vp hF (.bool (decide ((i : Int) < (n : Int)))) ?_; clear hF; intro a hF
 refine L_nil ?_
 refine hK6 _ _ ?_
 by_cases q1 : (i : Int) < (n : Int)
 ·
  replace hF := hF.know (d := 12) (v' := .bool true) (by kernel_rfl) (congrArg Value.bool (decide_eq_true q1))
  refine cond_t hF (by kernel_rfl) (by kernel_rfl) ?_
  refine wp_skip ?_
  refine hK5 _ _ ?_
  refine wp_seq_k fun K7 hK7 => ?_
  refine wp_block ?_
  refine A_start (fun Wx => Own W noX [.blk b2 (.cells #[.bool false, .int .u8 0, .int .u8 0, .int .u8 0, .int .u8 0, .int .u8 0, .int .u8 0, .int .u8 0, .int .u8 0, .int .u8 0, .int .u8 0, .int .u8 0, .int .u8 0, .int .u8 0, .int .u8 0, .int .u8 0, .int .u8 0] 33 (0, 0)), .blk b1 (.cells (ipL x).toArray 33 (0, 0))] Wx) (by kernel_rfl) ?_
  replace hO := hO.drewN 1
  generalize hWd : ({ Wl1 with drawn := Wl1.drawn + 1 } : World) = Wl1_d at hO ⊢; clear hWd
  have hS := hO.sub (.cons _ (.cons_cons _ (.cons_cons _ (List.nil_sublist _))))
  refine Tk 0 rfl hF (.int .i64 ((i : Int))) (fun Wx _ => by kernel_rfl) hS ?_; clear hF; intro a hF
  refine Tk 1 rfl hF (.int .i64 (((i / 8 : Nat) : Int))) (fun Wx _ => (x_int (x := IntKind.i64.wrap (Int.tdiv (i : Int) 8)) (quo8 (by omega)) (by kernel_rfl))) hS ?_; clear hF; intro a hF
  refine Tk 2 rfl hF (.pointer (some ⟨b3, 1, none⟩)) (fun Wx _ => by kernel_rfl) hS ?_; clear hF; intro a hF
  refine Tk 3 rfl hF (.pointer (some ⟨b3, 1 + (i / 8) * 1, none⟩)) (fun Wx _ => (x_idxPtr (b := b3) (off := 1) (elem := 5) (len := 16) (kd := .i64) (k := 1) (i := ((i / 8 : Nat) : Int)) rfl (by kernel_rfl) (by kernel_rfl) (by kernel_rfl) (by kernel_rfl) (by omega) (by omega))) hS ?_; clear hF; intro a hF
  refine Tk 5 rfl hF (ipV x) (fun Wx hO => x_load (p := .pointer (some ⟨b1, 0, none⟩)) rfl (by kernel_rfl) (run_loadA (k := 17) (by kernel_rfl) (by kernel_rfl) (hO.blk (List.mem_cons_of_mem _ List.mem_cons_self)) (by kernel_rfl) (by kernel_rfl))) hS ?_; clear hF; intro a hF
  refine Tk 6 rfl hF (.int .i64 ((i : Int))) (fun Wx _ => by kernel_rfl) hS ?_; clear hF; intro a hF
  refine Tk 8 rfl hF (.int .i64 ((i : Int))) (fun Wx _ => by kernel_rfl) hS ?_; clear hF; intro a hF
  refine Tk 9 rfl hF (.int .i64 ((i : Int) % 8)) (fun Wx _ => (x_int (x := Int.tmod (i : Int) 8) (rem_pos (by omega)) (by kernel_rfl))) hS ?_; clear hF; intro a hF
  refine Tk 10 rfl hF (.int .i64 (7 - ((i : Int) % 8))) (fun Wx _ => (x_int (x := IntKind.i64.wrap (7 - ((i : Int) % 8))) (i64In (by omega) (by omega)) (by kernel_rfl))) hS ?_; clear hF; intro a hF
  refine Tk 14 rfl hF (.pointer (some ⟨b3, 1, none⟩)) (fun Wx _ => by kernel_rfl) hS ?_; clear hF; intro a hF
  refine A_cut (fun a Wx => Fr 32 a [(1, .int .i64 ((n : Int))), (2, .pointer (some ⟨b1, 0, none⟩)), (4, .pointer (some ⟨b2, 0, none⟩)), (5, .pointer (some ⟨b3, 0, none⟩)), (6, .int .i64 ((i : Int))), (10, .int .i64 ((i : Int))), (11, .int .i64 ((n : Int))), (12, .bool true), (15, .int .i64 ((i : Int))), (16, .int .i64 (((i / 8 : Nat) : Int))), (17, .pointer (some ⟨b3, 1, none⟩)), (18, .pointer (some ⟨b3, 1 + (i / 8) * 1, none⟩)), (19, .int .u8 ((((rcut x i).at (i / 8)).toNat : Int))), (20, ipV x), (21, .int .i64 ((i : Int))), (22, .int .i64 ((bitAt x i : Int))), (23, .int .i64 ((i : Int))), (24, .int .i64 ((i : Int) % 8)), (25, .int .i64 (7 - ((i : Int) % 8))), (26, .int .i64 (((bitAt x i * 2 ^ (7 - i % 8) : Nat) : Int))), (27, .int .u8 (((UInt8.ofNat (bitAt x i * 2 ^ (7 - i % 8))).toNat : Int))), (29, .pointer (some ⟨b3, 1, none⟩))] ∧ Own W noX [.blk b3 (.cells (ipL (rcut x i)).toArray 33 (0, 0)), .blk b2 (.cells #[.bool false, .int .u8 0, .int .u8 0, .int .u8 0, .int .u8 0, .int .u8 0, .int .u8 0, .int .u8 0, .int .u8 0, .int .u8 0, .int .u8 0, .int .u8 0, .int .u8 0, .int .u8 0, .int .u8 0, .int .u8 0, .int .u8 0] 33 (0, 0)), .blk b1 (.cells (ipL x).toArray 33 (0, 0))] Wx) (fuel := 3) (listed := #[true, true, true, true, true, true, true, true, true, true, true, true, true, false, true, false, false]) ?_ ?_
  ·
   clear hF hO; rintro a W6 ⟨hF, hO⟩
   have hS := hO.sub (.cons _ (.cons_cons _ (.cons_cons _ (List.nil_sublist _))))
   refine Tk 13 rfl hF (.int .u8 (((((rcut x i).at (i / 8)) + (UInt8.ofNat (bitAt x i * 2 ^ (7 - i % 8)))).toNat : Int))) (fun Wx _ => (x_int (add_u8 ((rcut x i).at (i / 8)) (UInt8.ofNat (bitAt x i * 2 ^ (7 - i % 8)))) (by kernel_rfl))) hS ?_; clear hF; intro a hF
   refine Tk 15 rfl hF (.pointer (some ⟨b3, 1 + (i / 8) * 1, none⟩)) (fun Wx _ => (x_idxPtr (b := b3) (off := 1) (elem := 5) (len := 16) (kd := .i64) (k := 1) (i := ((i / 8 : Nat) : Int)) rfl (by kernel_rfl) (by kernel_rfl) (by kernel_rfl) (by kernel_rfl) (by omega) (by omega))) hS ?_; clear hF; intro a hF
   refine A_one (i := 16) (listed' := #[true, true, true, true, true, true, true, true, true, true, true, true, true, true, true, true, true]) (by kernel_rfl) rfl (by kernel_rfl) ?_
   obtain ⟨W7, hst, hO1⟩ := run_store_ip (P := Tryz.prog) (T := 5) (i := (i / 8)) (v := (((rcut x i).at (i / 8)) + (UInt8.ofNat (bitAt x i * 2 ^ (7 - i % 8))))) hO (by kernel_rfl) (by (first | omega | (simp only [List.length_set, List.length_take, List.length_drop, List.length_append, List.length_cons, List.length_nil]; done) | (simp only [List.length_set, List.length_take, List.length_drop, List.length_append, List.length_cons, List.length_nil]; omega) | (simp only [List.length_set, List.length_take, List.length_drop, List.length_append, List.length_cons, List.length_nil] at *; omega))) (.head _)
   refine OpK.skip hF (by kernel_rfl) (by kernel_rfl) (x_store (p := .pointer (some ⟨b3, 1 + (i / 8) * 1, none⟩)) (v := .int .u8 (((((rcut x i).at (i / 8)) + (UInt8.ofNat (bitAt x i * 2 ^ (7 - i % 8)))).toNat : Int))) rfl (by kernel_rfl) (by kernel_rfl) hst) (by kernel_rfl) ?_
   clear hst hF; intro a hF; replace hO := hO1; clear hO1
   refine ⟨hO.sub (.cons _ (.cons_cons _ (.cons_cons _ (List.nil_sublist _)))), ?_⟩
   refine A_done (by kernel_rfl) ?_
   refine block_normal ?_
   refine hK7 _ _ ?_
   refine wp_region_lit ?_
   refine Vp hF (.int .i64 ((i : Int))) ?_; clear hF; intro a hF
   refine Vr hF (.int .i64 ((i : Int) + 1)) (x_int (x := IntKind.i64.wrap ((i : Int) + 1)) (i64In (by omega) (by omega)) (by kernel_rfl)) ?_; clear hF; intro a hF
   refine Vp hF (.int .i64 ((i : Int) + 1)) ?_; clear hF; intro a hF
   refine L_nil ?_
   refine hK_1 (i + 1) _ _ (by first | omega | (dsimp only; omega)) ⟨by omega, ?_, ?_⟩
   · exact hF.restrict ⟨(by kernel_rfl), (by kernel_rfl), (by kernel_rfl), (by kernel_rfl), (congrArg some (by first | rfl | exact congrArg (Value.int _) (by omega) | simp)), trivial⟩
   · exact hO.sub (.cons_cons _ (.cons_cons _ (.cons_cons _ (List.nil_sublist _))))
  ·
   intro hcut1
   refine A_many [4, 7] (by kernel_rfl) rfl ⟨?_, ?_, trivial⟩
   ·
    refine A_br (listed' := #[true, true, true, true, true, true, true, false, true, true, true, false, false, false, true, false, false]) rfl (by kernel_rfl) ?_
    refine OpK.vr hF (.int .u8 ((((rcut x i).at (i / 8)).toNat : Int))) (x_load (p := .pointer (some ⟨b3, 1 + (i / 8) * 1, none⟩)) rfl (by kernel_rfl) (run_load_ip hO List.mem_cons_self (by kernel_rfl) (by (first | omega | (simp only [List.length_set, List.length_take, List.length_drop, List.length_append, List.length_cons, List.length_nil]; done) | (simp only [List.length_set, List.length_take, List.length_drop, List.length_append, List.length_cons, List.length_nil]; omega) | (simp only [List.length_set, List.length_take, List.length_drop, List.length_append, List.length_cons, List.length_nil] at *; omega))))) ?_; clear hF; intro a hF
    refine ⟨hO.sub (.cons _ (.cons_cons _ (.cons_cons _ (List.nil_sublist _)))), ?_⟩
    refine A_one (i := 7) (listed' := #[true, true, true, true, true, true, true, true, true, true, true, false, false, false, true, false, false]) (by kernel_rfl) rfl (by kernel_rfl) ?_
    refine OpK.lc hF (ref03_bit x i Wl1_d (by omega)) ?_
    clear hF; rintro _ W8 a ⟨rfl, hk⟩ hF
    replace hO := hO.call0 hk; clear hk
    refine ⟨hO.sub (.cons _ (.cons_cons _ (.cons_cons _ (List.nil_sublist _)))), ?_⟩
    have hS := hO.sub (.cons _ (.cons_cons _ (.cons_cons _ (List.nil_sublist _))))
    refine Tk 11 rfl hF (.int .i64 (((bitAt x i * 2 ^ (7 - i % 8) : Nat) : Int))) (fun Wx _ => (x_int (shl_bit (v := bitAt x i) (i := i) (bit_le _ _)) (x_shlV (k := .i64) (yk := .i64) (x := (bitAt x i : Int)) (y := 7 - ((i : Int) % 8)) rfl (by kernel_rfl) (by kernel_rfl) (by omega)))) hS ?_; clear hF; intro a hF
    refine Tk 12 rfl hF (.int .u8 (((UInt8.ofNat (bitAt x i * 2 ^ (7 - i % 8))).toNat : Int))) (fun Wx _ => (x_int (x := IntKind.u8.wrap (((bitAt x i * 2 ^ (7 - i % 8) : Nat) : Int))) (nat_conv _) (by kernel_rfl))) hS ?_; clear hF; intro a hF
    refine A_norm (listed' := #[true, true, true, true, true, true, true, true, true, true, true, true, true, false, true, false, false]) (by kernel_rfl) (hcut1 _ _ ⟨hF.restrict ⟨(by kernel_rfl), (by kernel_rfl), (by kernel_rfl), (by kernel_rfl), (by kernel_rfl), (by kernel_rfl), (by kernel_rfl), (by kernel_rfl), (by kernel_rfl), (by kernel_rfl), (by kernel_rfl), (by kernel_rfl), (by kernel_rfl), (by kernel_rfl), (by kernel_rfl), (by kernel_rfl), (by kernel_rfl), (by kernel_rfl), (by kernel_rfl), (by kernel_rfl), (by kernel_rfl), (by kernel_rfl), trivial⟩, (hO.sub (.cons_cons _ (.cons_cons _ (.cons_cons _ (List.nil_sublist _)))))⟩)
   ·
    refine A_br (listed' := #[true, true, true, true, false, true, true, true, true, true, true, false, false, false, true, false, false]) rfl (by kernel_rfl) ?_
    refine OpK.lc hF (ref03_bit x i Wl1_d (by omega)) ?_
    clear hF; rintro _ W9 a ⟨rfl, hk⟩ hF
    replace hO := hO.call0 hk; clear hk
    refine ⟨hO.sub (.cons _ (.cons_cons _ (.cons_cons _ (List.nil_sublist _)))), ?_⟩
    have hS := hO.sub (.cons _ (.cons_cons _ (.cons_cons _ (List.nil_sublist _))))
    refine Tk 11 rfl hF (.int .i64 (((bitAt x i * 2 ^ (7 - i % 8) : Nat) : Int))) (fun Wx _ => (x_int (shl_bit (v := bitAt x i) (i := i) (bit_le _ _)) (x_shlV (k := .i64) (yk := .i64) (x := (bitAt x i : Int)) (y := 7 - ((i : Int) % 8)) rfl (by kernel_rfl) (by kernel_rfl) (by omega)))) hS ?_; clear hF; intro a hF
    refine Tk 12 rfl hF (.int .u8 (((UInt8.ofNat (bitAt x i * 2 ^ (7 - i % 8))).toNat : Int))) (fun Wx _ => (x_int (x := IntKind.u8.wrap (((bitAt x i * 2 ^ (7 - i % 8) : Nat) : Int))) (nat_conv _) (by kernel_rfl))) hS ?_; clear hF; intro a hF
    refine A_one (i := 4) (listed' := #[true, true, true, true, true, true, true, true, true, true, true, true, true, false, true, false, false]) (by kernel_rfl) rfl (by kernel_rfl) ?_
    refine OpK.vr hF (.int .u8 ((((rcut x i).at (i / 8)).toNat : Int))) (x_load (p := .pointer (some ⟨b3, 1 + (i / 8) * 1, none⟩)) rfl (by kernel_rfl) (run_load_ip hO List.mem_cons_self (by kernel_rfl) (by (first | omega | (simp only [List.length_set, List.length_take, List.length_drop, List.length_append, List.length_cons, List.length_nil]; done) | (simp only [List.length_set, List.length_take, List.length_drop, List.length_append, List.length_cons, List.length_nil]; omega) | (simp only [List.length_set, List.length_take, List.length_drop, List.length_append, List.length_cons, List.length_nil] at *; omega))))) ?_; clear hF; intro a hF
    refine ⟨hO.sub (.cons _ (.cons_cons _ (.cons_cons _ (List.nil_sublist _)))), ?_⟩
    refine A_norm (listed' := #[true, true, true, true, true, true, true, true, true, true, true, true, true, false, true, false, false]) (by kernel_rfl) (hcut1 _ _ ⟨hF.restrict ⟨(by kernel_rfl), (by kernel_rfl), (by kernel_rfl), (by kernel_rfl), (by kernel_rfl), (by kernel_rfl), (by kernel_rfl), (by kernel_rfl), (by kernel_rfl), (by kernel_rfl), (by kernel_rfl), (by kernel_rfl), (by kernel_rfl), (by kernel_rfl), (by kernel_rfl), (by kernel_rfl), (by kernel_rfl), (by kernel_rfl), (by kernel_rfl), (by kernel_rfl), (by kernel_rfl), (by kernel_rfl), trivial⟩, (hO.sub (.cons_cons _ (.cons_cons _ (.cons_cons _ (List.nil_sublist _)))))⟩)
 ·
  replace hF := hF.know (d := 12) (v' := .bool false) (by kernel_rfl) (congrArg Value.bool (decide_eq_false q1))
  refine cond_f hF (by kernel_rfl) (by kernel_rfl) ?_
  refine wp_exit ?_
  refine then_exit ?_
  refine then_exit ?_
  refine inBlock_hit ?_
  refine hK3 _ _ ?_
  refine wp_seq_k fun K8 hK8 => ?_
  refine wp_region_lit ?_
  refine Vr hF (ipV (rcut x i)) (x_load (p := .pointer (some ⟨b3, 0, none⟩)) rfl (by kernel_rfl) (run_loadA (k := 17) (by kernel_rfl) (by kernel_rfl) (hO.blk List.mem_cons_self) (by kernel_rfl) (by kernel_rfl))) ?_; clear hF; intro a hF
  obtain ⟨W10, hst, hO1⟩ := run_storeAt (P := Tryz.prog) (k := 17) (T := 33) (off := 0) (v := ipV (rcut x i)) (cs := #[.bool false, .int .u8 0, .int .u8 0, .int .u8 0, .int .u8 0, .int .u8 0, .int .u8 0, .int .u8 0, .int .u8 0, .int .u8 0, .int .u8 0, .int .u8 0, .int .u8 0, .int .u8 0, .int .u8 0, .int .u8 0, .int .u8 0]) (cs' := (ipL (rcut x i)).toArray) hO (by kernel_rfl) (by kernel_rfl) (by kernel_rfl) (Nat.le_of_ble_eq_true (by kernel_rfl)) (by kernel_rfl) (.tail (.head _))
  refine L_skip hF (by kernel_rfl) (by kernel_rfl) (x_store (p := .pointer (some ⟨b2, 0, none⟩)) (v := ipV (rcut x i)) rfl (by kernel_rfl) (by kernel_rfl) hst) (by kernel_rfl) ?_
  clear hst hF; intro a hF; replace hO := hO1; clear hO1
  refine L_nil ?_
  refine hK8 _ _ ?_
  refine wp_ret ?_
  refine ret1 hF (v := ipV (rcut x i)) rfl (resC (ad := ⟨b2, 0, none⟩) (by kernel_rfl) (run_loadA (k := 17) (by kernel_rfl) (by kernel_rfl) (hO.blk (List.mem_cons_of_mem _ List.mem_cons_self)) (by kernel_rfl) (by kernel_rfl))) (by refine ⟨?_, hO.nil⟩; obtain rfl : i = n := (by omega); exact congrArg ipV (rcut_cut x hn)) .ret (.inl rfl)

end Go.Proofs.YthellfigmpjhlaaGreatDoor
