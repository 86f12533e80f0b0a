import Derived.Test.YthellfigmpjhlaaGreatDoorAddrW
import Derived.Test.YthellfigmpjhlaaGreatDoorCmp
import Derived.Test.YthellfigmpjhlaaGreatDoorTrim
import Derived.Test.YthellfigmpjhlaaGreatDoorFmt
namespace Go.Proofs.YthellfigmpjhlaaGreatDoor
open Go Go.RowKit
set_option linter.unusedVariables false
set_option linter.unusedSimpArgs false
set_option maxRecDepth 20000 in
theorem bytes_Compare (p q : Option Addr) (c d : Nat) (l m : List UInt8) (W : World) (hl : SlAt W p (l.flatMap u8L)) (hm : SlAt W q (m.flatMap u8L)) : Ret Tryz.prog 90 #[.slice p l.length c, .slice q m.length d] W fun v W' => v = .int .i64 (cmpBy l m) ∧ Own W noD [] W' := by
 refine enter Tryz.func90 rfl (n := 8) rfl (by kernel_rfl) (E0 := [(1, .slice q m.length d), (0, .slice p l.length c)]) (by kernel_rfl) ?_
 intro a hF; have hO := Own.start W noD
 refine wp_seq_k fun K1 hK1 => ?_
 refine wp_region_lit ?_
 refine Vp hF (.int .i64 0) ?_; clear hF; intro a hF
 refine L_nil ?_
 refine hK1 _ _ ?_
 refine wp_seq_k fun K2 hK2 => ?_
 refine wp_region_lit ?_
 refine Vp hF (.slice p l.length c) ?_; clear hF; intro a hF
 refine Vp hF (.slice q m.length d) ?_; clear hF; intro a hF
 refine Vr hF (.int .i64 ((cmpBy l m))) (x_ext2 (run_compare (p := p) (q := q) (c := c) (d := d) (l := l) (m := m) (hl.own hO) (hm.own hO)) rfl (by kernel_rfl) (by kernel_rfl) Tryz.func140 (by kernel_rfl) (by kernel_rfl) (by kernel_rfl) rfl) ?_; clear hF; intro a hF
 refine Vp hF (.int .i64 ((cmpBy l m))) ?_; clear hF; intro a hF
 refine L_nil ?_
 refine hK2 _ _ ?_
 refine wp_ret ?_
 refine ret1 hF (v := .int .i64 ((cmpBy l m))) rfl (resT (by kernel_rfl)) (by refine ⟨?_, hO.nil⟩; first | rfl | (simp [*]; done)) .ret (.inl rfl)

def cmpIp (a b : Ip) : Int := if a.six = b.six then cmpBy a.bytes b.bytes else if a.six then 1 else -1
set_option maxRecDepth 20000 in
theorem addr_Compare (x y : Ip) (W : World) : Ret Tryz.prog 29 #[ipV x, ipV y] W fun v W' => v = .int .i64 (cmpIp x y) ∧ Own W noD [] W' := by
 refine enter Tryz.func29 rfl (n := 19) rfl (by kernel_rfl) (E0 := [(1, ipV y), (0, ipV x)]) (by kernel_rfl) ?_
 intro a hF; have hO := Own.start W noD
 refine wp_seq_k fun K1 hK1 => ?_
 refine wp_region_lit ?_
 refine L_new hF hO (by kernel_rfl) (by kernel_rfl) (vf := fun b => .pointer (some ⟨b, 0, none⟩)) (ob := .cells #[.bool x.six, .int .u8 ((x.b0.toNat : Int)), .int .u8 ((x.b1.toNat : Int)), .int .u8 ((x.b2.toNat : Int)), .int .u8 ((x.b3.toNat : Int)), .int .u8 ((x.b4.toNat : Int)), .int .u8 ((x.b5.toNat : Int)), .int .u8 ((x.b6.toNat : Int)), .int .u8 ((x.b7.toNat : Int)), .int .u8 ((x.b8.toNat : Int)), .int .u8 ((x.b9.toNat : Int)), .int .u8 ((x.b10.toNat : Int)), .int .u8 ((x.b11.toNat : Int)), .int .u8 ((x.b12.toNat : Int)), .int .u8 ((x.b13.toNat : Int)), .int .u8 ((x.b14.toNat : Int)), .int .u8 ((x.b15.toNat : Int))] 33) (by kernel_rfl) (by kernel_rfl) ?_
 clear hF hO; intro b1 W1 a hO hF
 replace hO := hO.reblk (cs := #[.bool x.six, .int .u8 ((x.b0.toNat : Int)), .int .u8 ((x.b1.toNat : Int)), .int .u8 ((x.b2.toNat : Int)), .int .u8 ((x.b3.toNat : Int)), .int .u8 ((x.b4.toNat : Int)), .int .u8 ((x.b5.toNat : Int)), .int .u8 ((x.b6.toNat : Int)), .int .u8 ((x.b7.toNat : Int)), .int .u8 ((x.b8.toNat : Int)), .int .u8 ((x.b9.toNat : Int)), .int .u8 ((x.b10.toNat : Int)), .int .u8 ((x.b11.toNat : Int)), .int .u8 ((x.b12.toNat : Int)), .int .u8 ((x.b13.toNat : Int)), .int .u8 ((x.b14.toNat : Int)), .int .u8 ((x.b15.toNat : Int))]) (cs' := (ipL x).toArray) (by kernel_rfl) (.head _)
 refine L_new hF hO (by kernel_rfl) (by kernel_rfl) (vf := fun b => .pointer (some ⟨b, 0, none⟩)) (ob := .cells #[.bool y.six, .int .u8 ((y.b0.toNat : Int)), .int .u8 ((y.b1.toNat : Int)), .int .u8 ((y.b2.toNat : Int)), .int .u8 ((y.b3.toNat : Int)), .int .u8 ((y.b4.toNat : Int)), .int .u8 ((y.b5.toNat : Int)), .int .u8 ((y.b6.toNat : Int)), .int .u8 ((y.b7.toNat : Int)), .int .u8 ((y.b8.toNat : Int)), .int .u8 ((y.b9.toNat : Int)), .int .u8 ((y.b10.toNat : Int)), .int .u8 ((y.b11.toNat : Int)), .int .u8 ((y.b12.toNat : Int)), .int .u8 ((y.b13.toNat : Int)), .int .u8 ((y.b14.toNat : Int)), .int .u8 ((y.b15.toNat : Int))] 33) (by kernel_rfl) (by kernel_rfl) ?_
 clear hF hO; intro b2 W2 a hO hF
 replace hO := hO.reblk (cs := #[.bool y.six, .int .u8 ((y.b0.toNat : Int)), .int .u8 ((y.b1.toNat : Int)), .int .u8 ((y.b2.toNat : Int)), .int .u8 ((y.b3.toNat : Int)), .int .u8 ((y.b4.toNat : Int)), .int .u8 ((y.b5.toNat : Int)), .int .u8 ((y.b6.toNat : Int)), .int .u8 ((y.b7.toNat : Int)), .int .u8 ((y.b8.toNat : Int)), .int .u8 ((y.b9.toNat : Int)), .int .u8 ((y.b10.toNat : Int)), .int .u8 ((y.b11.toNat : Int)), .int .u8 ((y.b12.toNat : Int)), .int .u8 ((y.b13.toNat : Int)), .int .u8 ((y.b14.toNat : Int)), .int .u8 ((y.b15.toNat : Int))]) (cs' := (ipL y).toArray) (by kernel_rfl) (.head _)
 refine Vp hF (.int .i64 0) ?_; clear hF; intro a hF
 refine L_nil ?_
 refine hK1 _ _ ?_
 refine wp_seq_k fun K2 hK2 => ?_
 refine wp_block ?_
 refine wp_seq_k fun K3 hK3 => ?_
 refine wp_region_lit ?_
 refine Vp hF (.pointer (some ⟨b1, 0, none⟩)) ?_; clear hF; intro a hF
 refine Vr hF (.bool x.six) (x_load (p := .pointer (some ⟨b1, 0, none⟩)) rfl (by kernel_rfl) (run_load1 (by kernel_rfl) ((hO.cell (List.mem_cons_of_mem _ List.mem_cons_self)).trans (by kernel_rfl)))) ?_; clear hF; intro a hF
 refine Vp hF (.pointer (some ⟨b2, 0, none⟩)) ?_; clear hF; intro a hF
 refine Vr hF (.bool y.six) (x_load (p := .pointer (some ⟨b2, 0, none⟩)) rfl (by kernel_rfl) (run_load1 (by kernel_rfl) ((hO.cell List.mem_cons_self).trans (by kernel_rfl)))) ?_; clear hF; intro a hF
 refine Vp hF (.bool (x.six == y.six)) ?_; clear hF; intro a hF
 refine Vp hF (.bool (x.six == y.six)) ?_; clear hF; intro a hF
 refine L_nil ?_
 refine hK3 _ _ ?_
 cases q1 : (x.six == y.six : Bool)
 ·
  replace hF := hF.know (d := 5) (v' := .bool false) (by kernel_rfl) (congrArg Value.bool q1)
  refine cond_f hF (by kernel_rfl) (by kernel_rfl) ?_
  refine wp_seq_k fun K4 hK4 => ?_
  refine wp_region_lit ?_
  refine Vp hF (.pointer (some ⟨b1, 0, none⟩)) ?_; clear hF; intro a hF
  refine Vr hF (.bool x.six) (x_load (p := .pointer (some ⟨b1, 0, none⟩)) rfl (by kernel_rfl) (run_load1 (by kernel_rfl) ((hO.cell (List.mem_cons_of_mem _ List.mem_cons_self)).trans (by kernel_rfl)))) ?_; clear hF; intro a hF
  refine Vp hF (.bool x.six) ?_; clear hF; intro a hF
  refine L_nil ?_
  refine hK4 _ _ ?_
  cases q2 : (x.six : Bool)
  ·
   replace hF := hF.know (d := 16) (v' := .bool false) (by kernel_rfl) (congrArg Value.bool q2)
   refine cond_f hF (by kernel_rfl) (by kernel_rfl) ?_
   refine wp_skip ?_
   refine block_normal ?_
   refine hK2 _ _ ?_
   refine wp_seq_k fun K5 hK5 => ?_
   refine wp_region_lit ?_
   refine Vp hF (.int .i64 (-1)) ?_; clear hF; intro a hF
   refine L_nil ?_
   refine hK5 _ _ ?_
   refine wp_ret ?_
   refine ret1 hF (v := .int .i64 (-1)) rfl (resT (by kernel_rfl)) (by refine ⟨?_, hO.nil⟩; unfold cmpIp; first | (simp_all; done) | (simp_all; rfl)) .ret (.inl rfl)
  ·
   replace hF := hF.know (d := 16) (v' := .bool true) (by kernel_rfl) (congrArg Value.bool q2)
   refine cond_t hF (by kernel_rfl) (by kernel_rfl) ?_
   refine wp_seq_k fun K6 hK6 => ?_
   refine wp_region_lit ?_
   refine Vp hF (.int .i64 1) ?_; clear hF; intro a hF
   refine L_nil ?_
   refine hK6 _ _ ?_
   refine wp_ret ?_
   refine block_ret ?_
   refine then_ret ?_
   refine ret1 hF (v := .int .i64 1) rfl (resT (by kernel_rfl)) (by refine ⟨?_, hO.nil⟩; unfold cmpIp; first | (simp_all; done) | (simp_all; rfl)) .ret (.inl rfl)
 ·
  replace hF := hF.know (d := 5) (v' := .bool true) (by kernel_rfl) (congrArg Value.bool q1)
  refine cond_t hF (by kernel_rfl) (by kernel_rfl) ?_
  refine wp_seq_k fun K7 hK7 => ?_
  refine A_start (fun Wx => Own W noD [.blk b2 (.cells (ipL y).toArray 33 (0, 0)), .blk b1 (.cells (ipL x).toArray 33 (0, 0))] Wx) (by kernel_rfl) ?_
  replace hO := hO.drewN 1
  generalize hWd : ({ W2 with drawn := W2.drawn + 1 } : World) = W2_d at hO ⊢; clear hWd
  have hS := hO.sub (.cons_cons _ (.cons_cons _ (List.nil_sublist _)))
  refine Tk 0 rfl hF (.pointer (some ⟨b1, 1, none⟩)) (fun Wx _ => by kernel_rfl) hS ?_; clear hF; intro a hF
  refine Tk 1 rfl hF (.slice (some ⟨b1, 1, none⟩) 16 16) (fun Wx _ => (x_slArr (b := b1) (off := 1) (n := 16) (elem := 5) (lo := 0) (hi := 16) rfl (by kernel_rfl) (by kernel_rfl) (by kernel_rfl) rfl rfl (by omega) (by omega) (by omega) (by kernel_rfl) (by first | rfl | omega) (by first | rfl | omega))) hS ?_; clear hF; intro a hF
  refine Tk 2 rfl hF (.pointer (some ⟨b2, 1, none⟩)) (fun Wx _ => by kernel_rfl) hS ?_; clear hF; intro a hF
  refine Tk 3 rfl hF (.slice (some ⟨b2, 1, none⟩) 16 16) (fun Wx _ => (x_slArr (b := b2) (off := 1) (n := 16) (elem := 5) (lo := 0) (hi := 16) rfl (by kernel_rfl) (by kernel_rfl) (by kernel_rfl) rfl rfl (by omega) (by omega) (by omega) (by kernel_rfl) (by first | rfl | omega) (by first | rfl | omega))) hS ?_; clear hF; intro a hF
  refine A_one (i := 4) (listed' := #[true, true, true, true, true, false]) (by kernel_rfl) rfl (by kernel_rfl) ?_
  refine OpK.lc hF (bytes_Compare (some ⟨b1, 1 + 0, none⟩) (some ⟨b2, 1 + 0, none⟩) 16 16 ((x.bytes.drop 0).take 16) ((y.bytes.drop 0).take 16) W2_d (SlAt.arr hO (List.mem_cons_of_mem _ List.mem_cons_self) 0 16 (by omega)) (SlAt.arr hO List.mem_cons_self 0 16 (by omega))) ?_
  clear hF; rintro _ W3 a ⟨rfl, hk⟩ hF
  replace hO := hO.call0 hk; clear hk
  refine ⟨hO.sub (.cons_cons _ (.cons_cons _ (List.nil_sublist _))), ?_⟩
  have hS := hO.sub (.cons_cons _ (.cons_cons _ (List.nil_sublist _)))
  refine Tk 5 rfl hF (.int .i64 ((cmpBy ((x.bytes.drop 0).take 16) ((y.bytes.drop 0).take 16)))) (fun Wx _ => by kernel_rfl) hS ?_; clear hF; intro a hF
  refine A_done (by kernel_rfl) ?_
  refine hK7 _ _ ?_
  refine wp_ret ?_
  refine block_ret ?_
  refine then_ret ?_
  refine ret1 hF (v := .int .i64 ((cmpBy ((x.bytes.drop 0).take 16) ((y.bytes.drop 0).take 16)))) rfl (resT (by kernel_rfl)) (by refine ⟨?_, hO.nil⟩; unfold cmpIp; first | (simp_all; done) | (simp_all; rfl)) .ret (.inl rfl)

set_option maxRecDepth 20000 in
theorem ref02_Compare (x y : Ip) (W : World) : Ret Tryz.prog 30 #[ipV x, ipV y] W fun v W' => v = .int .i64 (refIp x y) ∧ Own W noX [] W' := by
 refine enter Tryz.func30 rfl (n := 35) rfl (by kernel_rfl) (E0 := [(1, ipV y), (0, ipV x)]) (by kernel_rfl) ?_
 intro a hF; have hO := Own.start W noX
 refine wp_seq_k fun K1 hK1 => ?_
 refine wp_region_lit ?_
 refine L_new hF hO (by kernel_rfl) (by kernel_rfl) (vf := fun b => .pointer (some ⟨b, 0, none⟩)) (ob := .cells #[.bool x.six, .int .u8 ((x.b0.toNat : Int)), .int .u8 ((x.b1.toNat : Int)), .int .u8 ((x.b2.toNat : Int)), .int .u8 ((x.b3.toNat : Int)), .int .u8 ((x.b4.toNat : Int)), .int .u8 ((x.b5.toNat : Int)), .int .u8 ((x.b6.toNat : Int)), .int .u8 ((x.b7.toNat : Int)), .int .u8 ((x.b8.toNat : Int)), .int .u8 ((x.b9.toNat : Int)), .int .u8 ((x.b10.toNat : Int)), .int .u8 ((x.b11.toNat : Int)), .int .u8 ((x.b12.toNat : Int)), .int .u8 ((x.b13.toNat : Int)), .int .u8 ((x.b14.toNat : Int)), .int .u8 ((x.b15.toNat : Int))] 33) (by kernel_rfl) (by kernel_rfl) ?_
 clear hF hO; intro b1 W1 a hO hF
 replace hO := hO.reblk (cs := #[.bool x.six, .int .u8 ((x.b0.toNat : Int)), .int .u8 ((x.b1.toNat : Int)), .int .u8 ((x.b2.toNat : Int)), .int .u8 ((x.b3.toNat : Int)), .int .u8 ((x.b4.toNat : Int)), .int .u8 ((x.b5.toNat : Int)), .int .u8 ((x.b6.toNat : Int)), .int .u8 ((x.b7.toNat : Int)), .int .u8 ((x.b8.toNat : Int)), .int .u8 ((x.b9.toNat : Int)), .int .u8 ((x.b10.toNat : Int)), .int .u8 ((x.b11.toNat : Int)), .int .u8 ((x.b12.toNat : Int)), .int .u8 ((x.b13.toNat : Int)), .int .u8 ((x.b14.toNat : Int)), .int .u8 ((x.b15.toNat : Int))]) (cs' := (ipL x).toArray) (by kernel_rfl) (.head _)
 refine L_new hF hO (by kernel_rfl) (by kernel_rfl) (vf := fun b => .pointer (some ⟨b, 0, none⟩)) (ob := .cells #[.bool y.six, .int .u8 ((y.b0.toNat : Int)), .int .u8 ((y.b1.toNat : Int)), .int .u8 ((y.b2.toNat : Int)), .int .u8 ((y.b3.toNat : Int)), .int .u8 ((y.b4.toNat : Int)), .int .u8 ((y.b5.toNat : Int)), .int .u8 ((y.b6.toNat : Int)), .int .u8 ((y.b7.toNat : Int)), .int .u8 ((y.b8.toNat : Int)), .int .u8 ((y.b9.toNat : Int)), .int .u8 ((y.b10.toNat : Int)), .int .u8 ((y.b11.toNat : Int)), .int .u8 ((y.b12.toNat : Int)), .int .u8 ((y.b13.toNat : Int)), .int .u8 ((y.b14.toNat : Int)), .int .u8 ((y.b15.toNat : Int))] 33) (by kernel_rfl) (by kernel_rfl) ?_
 clear hF hO; intro b2 W2 a hO hF
 replace hO := hO.reblk (cs := #[.bool y.six, .int .u8 ((y.b0.toNat : Int)), .int .u8 ((y.b1.toNat : Int)), .int .u8 ((y.b2.toNat : Int)), .int .u8 ((y.b3.toNat : Int)), .int .u8 ((y.b4.toNat : Int)), .int .u8 ((y.b5.toNat : Int)), .int .u8 ((y.b6.toNat : Int)), .int .u8 ((y.b7.toNat : Int)), .int .u8 ((y.b8.toNat : Int)), .int .u8 ((y.b9.toNat : Int)), .int .u8 ((y.b10.toNat : Int)), .int .u8 ((y.b11.toNat : Int)), .int .u8 ((y.b12.toNat : Int)), .int .u8 ((y.b13.toNat : Int)), .int .u8 ((y.b14.toNat : Int)), .int .u8 ((y.b15.toNat : Int))]) (cs' := (ipL y).toArray) (by kernel_rfl) (.head _)
 refine Vp hF (.int .i64 0) ?_; clear hF; intro a hF
 refine L_nil ?_
 refine hK1 _ _ ?_
 refine wp_seq_k fun K2 hK2 => ?_
 refine wp_seq_k fun K3 hK3 => ?_
 refine wp_region_lit ?_
 refine Vp hF (.pointer (some ⟨b1, 0, none⟩)) ?_; clear hF; intro a hF
 refine Vr hF (.bool x.six) (x_load (p := .pointer (some ⟨b1, 0, none⟩)) rfl (by kernel_rfl) (run_load1 (by kernel_rfl) ((hO.cell (List.mem_cons_of_mem _ List.mem_cons_self)).trans (by kernel_rfl)))) ?_; clear hF; intro a hF
 refine Vp hF (.pointer (some ⟨b2, 0, none⟩)) ?_; clear hF; intro a hF
 refine Vr hF (.bool y.six) (x_load (p := .pointer (some ⟨b2, 0, none⟩)) rfl (by kernel_rfl) (run_load1 (by kernel_rfl) ((hO.cell List.mem_cons_self).trans (by kernel_rfl)))) ?_; clear hF; intro a hF
 refine Vp hF (.bool (!(x.six == y.six))) ?_; clear hF; intro a hF
 refine L_nil ?_
 refine hK3 _ _ ?_
 cases q1 : (!(x.six == y.six) : Bool)
 ·
  replace hF := hF.know (d := 10) (v' := .bool false) (by kernel_rfl) (congrArg Value.bool q1)
  refine cond_f hF (by kernel_rfl) (by kernel_rfl) ?_
  refine wp_skip ?_
  refine hK2 _ _ ?_
  refine wp_seq_k fun K4 hK4 => ?_
  refine wp_seq_k fun K5 hK5 => ?_
  refine wp_region_lit ?_
  refine Vp hF (.int .i64 0) ?_; clear hF; intro a hF
  refine L_nil ?_
  refine hK5 _ _ ?_
  refine wp_block ?_
  refine loopX (τ := Nat) (fun (i : Nat) a Wx => (i ≤ 16 ∧ cmpL x.bytes y.bytes = cmpL (x.bytes.drop i) (y.bytes.drop i)) ∧ Fr 35 a [(2, .pointer (some ⟨b1, 0, none⟩)), (3, .pointer (some ⟨b2, 0, none⟩)), (13, .int .i64 ((i : Int)))] ∧ Own W noX [.blk b2 (.cells (ipL y).toArray 33 (0, 0)), .blk b1 (.cells (ipL x).toArray 33 (0, 0))] Wx) (fun (i : Nat) => 16 - i) (0) ⟨⟨by omega, rfl⟩, ?_, ?_⟩ ?_
  · exact hF.restrict ⟨(by kernel_rfl), (by kernel_rfl), (congrArg some (by first | rfl | exact congrArg (Value.int _) (by omega) | simp)), trivial⟩
  · exact hO.sub (.cons_cons _ (.cons_cons _ (List.nil_sublist _)))
  clear hF hO; rintro i a Wl1 ⟨hI, hF, hO⟩ KhK_1 hK_1
  try dsimp only at hI
  refine wp_seq_k fun K6 hK6 => ?_
  refine wp_region_lit ?_
  refine Vp hF (.bool (decide ((i : Int) < 16))) ?_; clear hF; intro a hF
  refine L_nil ?_
  refine hK6 _ _ ?_
  refine wp_seq_k fun K7 hK7 => ?_
  by_cases q2 : (i : Int) < 16
  ·
   replace hF := hF.know (d := 14) (v' := .bool true) (by kernel_rfl) (congrArg Value.bool (decide_eq_true q2))
   refine cond_t hF (by kernel_rfl) (by kernel_rfl) ?_
   refine wp_skip ?_
   refine hK7 _ _ ?_
   refine wp_seq_k fun K8 hK8 => ?_
   refine wp_block ?_
   refine wp_seq_k fun K9 hK9 => ?_
   refine wp_region_lit ?_
   refine Vp hF (.int .i64 ((i : Int))) ?_; clear hF; intro a hF
   refine Vp hF (.int .i64 ((i : Int))) ?_; clear hF; intro a hF
   refine L_nil ?_
   refine hK9 _ _ ?_
   refine wp_seq_k fun K10 hK10 => ?_
   refine wp_seq_k fun K11 hK11 => ?_
   refine A_start (fun Wx => Own W noX [.blk b2 (.cells (ipL y).toArray 33 (0, 0)), .blk b1 (.cells (ipL x).toArray 33 (0, 0))] Wx) (by kernel_rfl) ?_
   replace hO := hO.drewN 1
   generalize hWd : ({ Wl1 with drawn := Wl1.drawn + 1 } : World) = Wl1_d at hO ⊢; clear hWd
   have hS := hO.sub (.cons_cons _ (.cons_cons _ (List.nil_sublist _)))
   refine Tk 0 rfl hF (.int .i64 ((i : Int))) (fun Wx _ => by kernel_rfl) hS ?_; clear hF; intro a hF
   refine Tk 1 rfl hF (.pointer (some ⟨b1, 1, none⟩)) (fun Wx _ => by kernel_rfl) hS ?_; clear hF; intro a hF
   refine Tk 2 rfl hF (.pointer (some ⟨b1, 1 + i * 1, none⟩)) (fun Wx _ => (x_idxPtr (b := b1) (off := 1) (elem := 5) (len := 16) (kd := .i64) (k := 1) (i := (i : Int)) rfl (by kernel_rfl) (by kernel_rfl) (by kernel_rfl) (by kernel_rfl) (by omega) (by omega))) hS ?_; clear hF; intro a hF
   refine Tk 3 rfl hF (.int .u8 (((x.at i).toNat : Int))) (fun Wx hO => x_load (p := .pointer (some ⟨b1, 1 + i * 1, none⟩)) rfl (by kernel_rfl) (run_load_ip hO (List.mem_cons_of_mem _ List.mem_cons_self) (by kernel_rfl) (by (first | omega | (simp only [List.length_set, List.length_take, List.length_drop, List.length_append, List.length_cons, List.length_nil]; done) | (simp only [List.length_set, List.length_take, List.length_drop, List.length_append, List.length_cons, List.length_nil]; omega) | (simp only [List.length_set, List.length_take, List.length_drop, List.length_append, List.length_cons, List.length_nil] at *; omega))))) hS ?_; clear hF; intro a hF
   refine Tk 4 rfl hF (.int .i64 ((i : Int))) (fun Wx _ => by kernel_rfl) hS ?_; clear hF; intro a hF
   refine Tk 5 rfl hF (.pointer (some ⟨b2, 1, none⟩)) (fun Wx _ => by kernel_rfl) hS ?_; clear hF; intro a hF
   refine Tk 6 rfl hF (.pointer (some ⟨b2, 1 + i * 1, none⟩)) (fun Wx _ => (x_idxPtr (b := b2) (off := 1) (elem := 5) (len := 16) (kd := .i64) (k := 1) (i := (i : Int)) rfl (by kernel_rfl) (by kernel_rfl) (by kernel_rfl) (by kernel_rfl) (by omega) (by omega))) hS ?_; clear hF; intro a hF
   refine Tk 7 rfl hF (.int .u8 (((y.at i).toNat : Int))) (fun Wx hO => x_load (p := .pointer (some ⟨b2, 1 + i * 1, none⟩)) rfl (by kernel_rfl) (run_load_ip hO List.mem_cons_self (by kernel_rfl) (by (first | omega | (simp only [List.length_set, List.length_take, List.length_drop, List.length_append, List.length_cons, List.length_nil]; done) | (simp only [List.length_set, List.length_take, List.length_drop, List.length_append, List.length_cons, List.length_nil]; omega) | (simp only [List.length_set, List.length_take, List.length_drop, List.length_append, List.length_cons, List.length_nil] at *; omega))))) hS ?_; clear hF; intro a hF
   refine Tk 8 rfl hF (.bool (decide (((x.at i).toNat : Int) < ((y.at i).toNat : Int)))) (fun Wx _ => by kernel_rfl) hS ?_; clear hF; intro a hF
   refine A_done (by kernel_rfl) ?_
   refine hK11 _ _ ?_
   by_cases q3 : ((x.at i).toNat : Int) < ((y.at i).toNat : Int)
   ·
    replace hF := hF.know (d := 24) (v' := .bool true) (by kernel_rfl) (congrArg Value.bool (decide_eq_true q3))
    refine cond_t hF (by kernel_rfl) (by kernel_rfl) ?_
    refine wp_seq_k fun K12 hK12 => ?_
    refine wp_region_lit ?_
    refine Vp hF (.int .i64 (-1)) ?_; clear hF; intro a hF
    refine L_nil ?_
    refine hK12 _ _ ?_
    refine wp_ret ?_
    refine then_ret ?_
    refine block_ret ?_
    refine then_ret ?_
    refine then_ret ?_
    refine block_ret ?_
    refine then_ret ?_
    refine ret1 hF (v := .int .i64 (-1)) rfl (resT (by kernel_rfl)) (by refine ⟨?_, hO.nil⟩; unfold refIp; first | (simp_all; done) | (rw [if_pos (by simp_all)]; first | exact congrArg (Value.int _) (cmp_lt hI.2 (by omega) (by assumption)) | exact congrArg (Value.int _) (cmp_gt hI.2 (by omega) (by assumption)) | exact congrArg (Value.int _) (cmp_end hI.2 (by assumption)))) .ret (.inl rfl)
   ·
    replace hF := hF.know (d := 24) (v' := .bool false) (by kernel_rfl) (congrArg Value.bool (decide_eq_false q3))
    refine cond_f hF (by kernel_rfl) (by kernel_rfl) ?_
    refine wp_skip ?_
    refine hK10 _ _ ?_
    refine wp_seq_k fun K13 hK13 => ?_
    refine A_start (fun Wx => Own W noX [.blk b2 (.cells (ipL y).toArray 33 (0, 0)), .blk b1 (.cells (ipL x).toArray 33 (0, 0))] Wx) (by kernel_rfl) ?_
    replace hO := hO.drewN 1
    generalize hWd : ({ Wl1_d with drawn := Wl1_d.drawn + 1 } : World) = Wl1_d_d at hO ⊢; clear hWd
    have hS := hO.sub (.cons_cons _ (.cons_cons _ (List.nil_sublist _)))
    refine Tk 0 rfl hF (.int .i64 ((i : Int))) (fun Wx _ => by kernel_rfl) hS ?_; clear hF; intro a hF
    refine Tk 1 rfl hF (.pointer (some ⟨b1, 1, none⟩)) (fun Wx _ => by kernel_rfl) hS ?_; clear hF; intro a hF
    refine Tk 2 rfl hF (.pointer (some ⟨b1, 1 + i * 1, none⟩)) (fun Wx _ => (x_idxPtr (b := b1) (off := 1) (elem := 5) (len := 16) (kd := .i64) (k := 1) (i := (i : Int)) rfl (by kernel_rfl) (by kernel_rfl) (by kernel_rfl) (by kernel_rfl) (by omega) (by omega))) hS ?_; clear hF; intro a hF
    refine Tk 3 rfl hF (.int .u8 (((x.at i).toNat : Int))) (fun Wx hO => x_load (p := .pointer (some ⟨b1, 1 + i * 1, none⟩)) rfl (by kernel_rfl) (run_load_ip hO (List.mem_cons_of_mem _ List.mem_cons_self) (by kernel_rfl) (by (first | omega | (simp only [List.length_set, List.length_take, List.length_drop, List.length_append, List.length_cons, List.length_nil]; done) | (simp only [List.length_set, List.length_take, List.length_drop, List.length_append, List.length_cons, List.length_nil]; omega) | (simp only [List.length_set, List.length_take, List.length_drop, List.length_append, List.length_cons, List.length_nil] at *; omega))))) hS ?_; clear hF; intro a hF
    refine Tk 4 rfl hF (.int .i64 ((i : Int))) (fun Wx _ => by kernel_rfl) hS ?_; clear hF; intro a hF
    refine Tk 5 rfl hF (.pointer (some ⟨b2, 1, none⟩)) (fun Wx _ => by kernel_rfl) hS ?_; clear hF; intro a hF
    refine Tk 6 rfl hF (.pointer (some ⟨b2, 1 + i * 1, none⟩)) (fun Wx _ => (x_idxPtr (b := b2) (off := 1) (elem := 5) (len := 16) (kd := .i64) (k := 1) (i := (i : Int)) rfl (by kernel_rfl) (by kernel_rfl) (by kernel_rfl) (by kernel_rfl) (by omega) (by omega))) hS ?_; clear hF; intro a hF
    refine Tk 7 rfl hF (.int .u8 (((y.at i).toNat : Int))) (fun Wx hO => x_load (p := .pointer (some ⟨b2, 1 + i * 1, none⟩)) rfl (by kernel_rfl) (run_load_ip hO List.mem_cons_self (by kernel_rfl) (by (first | omega | (simp only [List.length_set, List.length_take, List.length_drop, List.length_append, List.length_cons, List.length_nil]; done) | (simp only [List.length_set, List.length_take, List.length_drop, List.length_append, List.length_cons, List.length_nil]; omega) | (simp only [List.length_set, List.length_take, List.length_drop, List.length_append, List.length_cons, List.length_nil] at *; omega))))) hS ?_; clear hF; intro a hF
    refine Tk 8 rfl hF (.bool (decide (((x.at i).toNat : Int) > ((y.at i).toNat : Int)))) (fun Wx _ => by kernel_rfl) hS ?_; clear hF; intro a hF
    refine A_done (by kernel_rfl) ?_
    refine hK13 _ _ ?_
    by_cases q4 : ((x.at i).toNat : Int) > ((y.at i).toNat : Int)
    ·
     replace hF := hF.know (d := 33) (v' := .bool true) (by kernel_rfl) (congrArg Value.bool (decide_eq_true q4))
     refine cond_t hF (by kernel_rfl) (by kernel_rfl) ?_
     refine wp_seq_k fun K14 hK14 => ?_
     refine wp_region_lit ?_
     refine Vp hF (.int .i64 1) ?_; clear hF; intro a hF
     refine L_nil ?_
     refine hK14 _ _ ?_
     refine wp_ret ?_
     refine block_ret ?_
     refine then_ret ?_
     refine then_ret ?_
     refine block_ret ?_
     refine then_ret ?_
     refine ret1 hF (v := .int .i64 1) rfl (resT (by kernel_rfl)) (by refine ⟨?_, hO.nil⟩; unfold refIp; first | (simp_all; done) | (rw [if_pos (by simp_all)]; first | exact congrArg (Value.int _) (cmp_lt hI.2 (by omega) (by assumption)) | exact congrArg (Value.int _) (cmp_gt hI.2 (by omega) (by assumption)) | exact congrArg (Value.int _) (cmp_end hI.2 (by assumption)))) .ret (.inl rfl)
    ·
     replace hF := hF.know (d := 33) (v' := .bool false) (by kernel_rfl) (congrArg Value.bool (decide_eq_false q4))
     refine cond_f hF (by kernel_rfl) (by kernel_rfl) ?_
     refine wp_skip ?_
     refine block_normal ?_
     refine hK8 _ _ ?_
     refine wp_region_lit ?_
     refine Vr hF (.int .i64 ((i : Int) + 1)) (x_int (x := IntKind.i64.wrap ((i : Int) + 1)) (i64In (by omega) (by omega)) (by kernel_rfl)) ?_; clear hF; intro a hF
     refine Vp hF (.int .i64 ((i : Int) + 1)) ?_; clear hF; intro a hF
     refine L_nil ?_
     refine hK_1 (i + 1) _ _ (by first | omega | (dsimp only; omega)) ⟨⟨by omega, cmp_next hI.2 (by omega) (by assumption) (by assumption)⟩, ?_, ?_⟩
     · exact hF.restrict ⟨(by kernel_rfl), (by kernel_rfl), (congrArg some (by first | rfl | exact congrArg (Value.int _) (by omega) | simp)), trivial⟩
     · exact hO.sub (.cons_cons _ (.cons_cons _ (List.nil_sublist _)))
  ·
   replace hF := hF.know (d := 14) (v' := .bool false) (by kernel_rfl) (congrArg Value.bool (decide_eq_false q2))
   refine cond_f hF (by kernel_rfl) (by kernel_rfl) ?_
   refine wp_exit ?_
   refine then_exit ?_
   refine then_exit ?_
   refine inBlock_hit ?_
   refine hK4 _ _ ?_
   refine wp_seq_k fun K15 hK15 => ?_
   refine wp_region_lit ?_
   refine Vp hF (.int .i64 0) ?_; clear hF; intro a hF
   refine L_nil ?_
   refine hK15 _ _ ?_
   refine wp_ret ?_
   refine ret1 hF (v := .int .i64 0) rfl (resT (by kernel_rfl)) (by refine ⟨?_, hO.nil⟩; unfold refIp; first | (simp_all; done) | (rw [if_pos (by simp_all)]; first | exact congrArg (Value.int _) (cmp_lt hI.2 (by omega) (by assumption)) | exact congrArg (Value.int _) (cmp_gt hI.2 (by omega) (by assumption)) | exact congrArg (Value.int _) (cmp_end hI.2 (by assumption)))) .ret (.inl rfl)
 ·
  replace hF := hF.know (d := 10) (v' := .bool true) (by kernel_rfl) (congrArg Value.bool q1)
  refine cond_t hF (by kernel_rfl) (by kernel_rfl) ?_
  refine wp_seq_k fun K16 hK16 => ?_
  refine wp_seq_k fun K17 hK17 => ?_
  refine wp_region_lit ?_
  refine Vp hF (.pointer (some ⟨b1, 0, none⟩)) ?_; clear hF; intro a hF
  refine Vr hF (.bool x.six) (x_load (p := .pointer (some ⟨b1, 0, none⟩)) rfl (by kernel_rfl) (run_load1 (by kernel_rfl) ((hO.cell (List.mem_cons_of_mem _ List.mem_cons_self)).trans (by kernel_rfl)))) ?_; clear hF; intro a hF
  refine L_nil ?_
  refine hK17 _ _ ?_
  cases q5 : (x.six : Bool)
  ·
   replace hF := hF.know (d := 12) (v' := .bool false) (by kernel_rfl) (congrArg Value.bool q5)
   refine cond_f hF (by kernel_rfl) (by kernel_rfl) ?_
   refine wp_skip ?_
   refine hK16 _ _ ?_
   refine wp_seq_k fun K18 hK18 => ?_
   refine wp_region_lit ?_
   refine Vp hF (.int .i64 (-1)) ?_; clear hF; intro a hF
   refine L_nil ?_
   refine hK18 _ _ ?_
   refine wp_ret ?_
   refine then_ret ?_
   refine ret1 hF (v := .int .i64 (-1)) rfl (resT (by kernel_rfl)) (by refine ⟨?_, hO.nil⟩; unfold refIp; first | (simp_all; done) | (rw [if_pos (by simp_all)]; first | exact congrArg (Value.int _) (cmp_lt hI.2 (by omega) (by assumption)) | exact congrArg (Value.int _) (cmp_gt hI.2 (by omega) (by assumption)) | exact congrArg (Value.int _) (cmp_end hI.2 (by assumption)))) .ret (.inl rfl)
  ·
   replace hF := hF.know (d := 12) (v' := .bool true) (by kernel_rfl) (congrArg Value.bool q5)
   refine cond_t hF (by kernel_rfl) (by kernel_rfl) ?_
   refine wp_seq_k fun K19 hK19 => ?_
   refine wp_region_lit ?_
   refine Vp hF (.int .i64 1) ?_; clear hF; intro a hF
   refine L_nil ?_
   refine hK19 _ _ ?_
   refine wp_ret ?_
   refine then_ret ?_
   refine then_ret ?_
   refine ret1 hF (v := .int .i64 1) rfl (resT (by kernel_rfl)) (by refine ⟨?_, hO.nil⟩; unfold refIp; first | (simp_all; done) | (rw [if_pos (by simp_all)]; first | exact congrArg (Value.int _) (cmp_lt hI.2 (by omega) (by assumption)) | exact congrArg (Value.int _) (cmp_gt hI.2 (by omega) (by assumption)) | exact congrArg (Value.int _) (cmp_end hI.2 (by assumption)))) .ret (.inl rfl)

set_option maxRecDepth 20000 in
theorem addr_at (x : Ip) (i : Nat) (W : World) (hi : i < 8) : Ret Tryz.prog 127 #[ipV x, .int .i64 ((i : Int))] W fun v W' => v = .int .i64 (atIp x i) ∧ Own W noX [] W' := by
 refine enter Tryz.func127 rfl (n := 20) rfl (by kernel_rfl) (E0 := [(1, .int .i64 ((i : Int))), (0, ipV x)]) (by kernel_rfl) ?_
 intro a hF; have hO := Own.start W noX
 refine wp_seq_k fun K1 hK1 => ?_
 refine wp_region_lit ?_
 refine L_new hF hO (by kernel_rfl) (by kernel_rfl) (vf := fun b => .pointer (some ⟨b, 0, none⟩)) (ob := .cells #[.bool x.six, .int .u8 ((x.b0.toNat : Int)), .int .u8 ((x.b1.toNat : Int)), .int .u8 ((x.b2.toNat : Int)), .int .u8 ((x.b3.toNat : Int)), .int .u8 ((x.b4.toNat : Int)), .int .u8 ((x.b5.toNat : Int)), .int .u8 ((x.b6.toNat : Int)), .int .u8 ((x.b7.toNat : Int)), .int .u8 ((x.b8.toNat : Int)), .int .u8 ((x.b9.toNat : Int)), .int .u8 ((x.b10.toNat : Int)), .int .u8 ((x.b11.toNat : Int)), .int .u8 ((x.b12.toNat : Int)), .int .u8 ((x.b13.toNat : Int)), .int .u8 ((x.b14.toNat : Int)), .int .u8 ((x.b15.toNat : Int))] 33) (by kernel_rfl) (by kernel_rfl) ?_
 clear hF hO; intro b1 W1 a hO hF
 replace hO := hO.reblk (cs := #[.bool x.six, .int .u8 ((x.b0.toNat : Int)), .int .u8 ((x.b1.toNat : Int)), .int .u8 ((x.b2.toNat : Int)), .int .u8 ((x.b3.toNat : Int)), .int .u8 ((x.b4.toNat : Int)), .int .u8 ((x.b5.toNat : Int)), .int .u8 ((x.b6.toNat : Int)), .int .u8 ((x.b7.toNat : Int)), .int .u8 ((x.b8.toNat : Int)), .int .u8 ((x.b9.toNat : Int)), .int .u8 ((x.b10.toNat : Int)), .int .u8 ((x.b11.toNat : Int)), .int .u8 ((x.b12.toNat : Int)), .int .u8 ((x.b13.toNat : Int)), .int .u8 ((x.b14.toNat : Int)), .int .u8 ((x.b15.toNat : Int))]) (cs' := (ipL x).toArray) (by kernel_rfl) (.head _)
 refine Vp hF (.int .i64 0) ?_; clear hF; intro a hF
 refine L_nil ?_
 refine hK1 _ _ ?_
 refine wp_seq_k fun K2 hK2 => ?_
 refine A_start (fun Wx => Own W noX [.blk b1 (.cells (ipL x).toArray 33 (0, 0))] Wx) (by kernel_rfl) ?_
 replace hO := hO.drewN 1
 generalize hWd : ({ W1 with drawn := W1.drawn + 1 } : World) = W1_d at hO ⊢; clear hWd
 have hS := hO.sub (.cons_cons _ (List.nil_sublist _))
 refine Tk 0 rfl hF (.int .i64 ((i : Int))) (fun Wx _ => by kernel_rfl) hS ?_; clear hF; intro a hF
 refine Tk 1 rfl hF (.int .i64 (2 * (i : Int))) (fun Wx _ => (x_int (x := IntKind.i64.wrap (2 * (i : Int))) (i64In (by omega) (by omega)) (by kernel_rfl))) hS ?_; clear hF; intro a hF
 refine Tk 2 rfl hF (.pointer (some ⟨b1, 1, none⟩)) (fun Wx _ => by kernel_rfl) hS ?_; clear hF; intro a hF
 refine Tk 3 rfl hF (.pointer (some ⟨b1, 1 + (2 * (i : Int)).toNat * 1, none⟩)) (fun Wx _ => (x_idxPtr (b := b1) (off := 1) (elem := 5) (len := 16) (kd := .i64) (k := 1) (i := 2 * (i : Int)) rfl (by kernel_rfl) (by kernel_rfl) (by kernel_rfl) (by kernel_rfl) (by omega) (by omega))) hS ?_; clear hF; intro a hF
 refine Tk 4 rfl hF (.int .u8 (((x.at ((2 * (i : Int)).toNat)).toNat : Int))) (fun Wx hO => x_load (p := .pointer (some ⟨b1, 1 + (2 * (i : Int)).toNat * 1, none⟩)) rfl (by kernel_rfl) (run_load_ip hO List.mem_cons_self (by kernel_rfl) (by (first | omega | (simp only [List.length_set, List.length_take, List.length_drop, List.length_append, List.length_cons, List.length_nil]; done) | (simp only [List.length_set, List.length_take, List.length_drop, List.length_append, List.length_cons, List.length_nil]; omega) | (simp only [List.length_set, List.length_take, List.length_drop, List.length_append, List.length_cons, List.length_nil] at *; omega))))) hS ?_; clear hF; intro a hF
 refine Tk 5 rfl hF (.int .i64 (((x.at ((2 * (i : Int)).toNat)).toNat : Int))) (fun Wx _ => (x_int (x := IntKind.i64.wrap (((x.at ((2 * (i : Int)).toNat)).toNat : Int))) (i64In (by have := UInt8.toNat_lt (x.at ((2 * (i : Int)).toNat)); (first | omega | (have h1 := UInt8.toNat_lt (x.at (2 * (i : Int)).toNat); have h2 := UInt8.toNat_lt (x.at (2 * (i : Int) + 1).toNat); omega))) (by have := UInt8.toNat_lt (x.at ((2 * (i : Int)).toNat)); (first | omega | (have h1 := UInt8.toNat_lt (x.at (2 * (i : Int)).toNat); have h2 := UInt8.toNat_lt (x.at (2 * (i : Int) + 1).toNat); omega)))) (by kernel_rfl))) hS ?_; clear hF; intro a hF
 refine Tk 6 rfl hF (.int .i64 (((x.at ((2 * (i : Int)).toNat)).toNat : Int) * 256)) (fun Wx _ => (x_int (x := IntKind.i64.wrap (((x.at ((2 * (i : Int)).toNat)).toNat : Int) * 256)) (i64In (by (first | omega | (have h1 := UInt8.toNat_lt (x.at (2 * (i : Int)).toNat); have h2 := UInt8.toNat_lt (x.at (2 * (i : Int) + 1).toNat); omega))) (by (first | omega | (have h1 := UInt8.toNat_lt (x.at (2 * (i : Int)).toNat); have h2 := UInt8.toNat_lt (x.at (2 * (i : Int) + 1).toNat); omega)))) (by kernel_rfl))) hS ?_; clear hF; intro a hF
 refine Tk 7 rfl hF (.int .i64 ((i : Int))) (fun Wx _ => by kernel_rfl) hS ?_; clear hF; intro a hF
 refine Tk 8 rfl hF (.int .i64 (2 * (i : Int))) (fun Wx _ => (x_int (x := IntKind.i64.wrap (2 * (i : Int))) (i64In (by omega) (by omega)) (by kernel_rfl))) hS ?_; clear hF; intro a hF
 refine Tk 9 rfl hF (.int .i64 (2 * (i : Int) + 1)) (fun Wx _ => (x_int (x := IntKind.i64.wrap (2 * (i : Int) + 1)) (i64In (by omega) (by omega)) (by kernel_rfl))) hS ?_; clear hF; intro a hF
 refine Tk 10 rfl hF (.pointer (some ⟨b1, 1, none⟩)) (fun Wx _ => by kernel_rfl) hS ?_; clear hF; intro a hF
 refine Tk 11 rfl hF (.pointer (some ⟨b1, 1 + (2 * (i : Int) + 1).toNat * 1, none⟩)) (fun Wx _ => (x_idxPtr (b := b1) (off := 1) (elem := 5) (len := 16) (kd := .i64) (k := 1) (i := 2 * (i : Int) + 1) rfl (by kernel_rfl) (by kernel_rfl) (by kernel_rfl) (by kernel_rfl) (by omega) (by omega))) hS ?_; clear hF; intro a hF
 refine Tk 12 rfl hF (.int .u8 (((x.at ((2 * (i : Int) + 1).toNat)).toNat : Int))) (fun Wx hO => x_load (p := .pointer (some ⟨b1, 1 + (2 * (i : Int) + 1).toNat * 1, none⟩)) rfl (by kernel_rfl) (run_load_ip hO List.mem_cons_self (by kernel_rfl) (by (first | omega | (simp only [List.length_set, List.length_take, List.length_drop, List.length_append, List.length_cons, List.length_nil]; done) | (simp only [List.length_set, List.length_take, List.length_drop, List.length_append, List.length_cons, List.length_nil]; omega) | (simp only [List.length_set, List.length_take, List.length_drop, List.length_append, List.length_cons, List.length_nil] at *; omega))))) hS ?_; clear hF; intro a hF
 refine Tk 13 rfl hF (.int .i64 (((x.at ((2 * (i : Int) + 1).toNat)).toNat : Int))) (fun Wx _ => (x_int (x := IntKind.i64.wrap (((x.at ((2 * (i : Int) + 1).toNat)).toNat : Int))) (i64In (by have := UInt8.toNat_lt (x.at ((2 * (i : Int) + 1).toNat)); (first | omega | (have h1 := UInt8.toNat_lt (x.at (2 * (i : Int)).toNat); have h2 := UInt8.toNat_lt (x.at (2 * (i : Int) + 1).toNat); omega))) (by have := UInt8.toNat_lt (x.at ((2 * (i : Int) + 1).toNat)); (first | omega | (have h1 := UInt8.toNat_lt (x.at (2 * (i : Int)).toNat); have h2 := UInt8.toNat_lt (x.at (2 * (i : Int) + 1).toNat); omega)))) (by kernel_rfl))) hS ?_; clear hF; intro a hF
 refine Tk 14 rfl hF (.int .i64 (((x.at ((2 * (i : Int)).toNat)).toNat : Int) * 256 + ((x.at ((2 * (i : Int) + 1).toNat)).toNat : Int))) (fun Wx _ => (x_int (x := IntKind.i64.wrap (((BitVec.ofInt 64 (((x.at ((2 * (i : Int)).toNat)).toNat : Int) * 256) ||| BitVec.ofInt 64 (((x.at ((2 * (i : Int) + 1).toNat)).toNat : Int))).toNat : Nat) : Int)) (or_256 (by (first | omega | (have h1 := UInt8.toNat_lt (x.at (2 * (i : Int)).toNat); have h2 := UInt8.toNat_lt (x.at (2 * (i : Int) + 1).toNat); omega))) (by (first | omega | (have h1 := UInt8.toNat_lt (x.at (2 * (i : Int)).toNat); have h2 := UInt8.toNat_lt (x.at (2 * (i : Int) + 1).toNat); omega))) (by (first | omega | (have h1 := UInt8.toNat_lt (x.at (2 * (i : Int)).toNat); have h2 := UInt8.toNat_lt (x.at (2 * (i : Int) + 1).toNat); omega))) (by (first | omega | (have h1 := UInt8.toNat_lt (x.at (2 * (i : Int)).toNat); have h2 := UInt8.toNat_lt (x.at (2 * (i : Int) + 1).toNat); omega))) (by (first | omega | (have h1 := UInt8.toNat_lt (x.at (2 * (i : Int)).toNat); have h2 := UInt8.toNat_lt (x.at (2 * (i : Int) + 1).toNat); omega)))) (by kernel_rfl))) hS ?_; clear hF; intro a hF
 refine Tk 15 rfl hF (.int .i64 (((x.at ((2 * (i : Int)).toNat)).toNat : Int) * 256 + ((x.at ((2 * (i : Int) + 1).toNat)).toNat : Int))) (fun Wx _ => by kernel_rfl) hS ?_; clear hF; intro a hF
 refine A_done (by kernel_rfl) ?_
 refine hK2 _ _ ?_
 refine wp_ret ?_
 refine ret1 hF (v := .int .i64 (((x.at ((2 * (i : Int)).toNat)).toNat : Int) * 256 + ((x.at ((2 * (i : Int) + 1).toNat)).toNat : Int))) rfl (resT (by kernel_rfl)) (by refine ⟨?_, hO.nil⟩; first | rfl | (simp [*]; done)) .ret (.inl rfl)

set_option maxRecDepth 20000 in
theorem addr_noughts (x : Ip) (W : World) : Ret Tryz.prog 82 #[ipV x] W fun v W' => v = .tuple #[.int .i64 (nz x 8).1, .int .i64 (nz x 8).2.1] ∧ Own W noX [] W' := by
 refine enter Tryz.func82 rfl (n := 28) rfl (by kernel_rfl) (E0 := [(0, ipV x)]) (by kernel_rfl) ?_
 intro a hF; have hO := Own.start W noX
 refine wp_seq_k fun K1 hK1 => ?_
 refine wp_region_lit ?_
 refine L_new hF hO (by kernel_rfl) (by kernel_rfl) (vf := fun b => .pointer (some ⟨b, 0, none⟩)) (ob := .cells #[.bool x.six, .int .u8 ((x.b0.toNat : Int)), .int .u8 ((x.b1.toNat : Int)), .int .u8 ((x.b2.toNat : Int)), .int .u8 ((x.b3.toNat : Int)), .int .u8 ((x.b4.toNat : Int)), .int .u8 ((x.b5.toNat : Int)), .int .u8 ((x.b6.toNat : Int)), .int .u8 ((x.b7.toNat : Int)), .int .u8 ((x.b8.toNat : Int)), .int .u8 ((x.b9.toNat : Int)), .int .u8 ((x.b10.toNat : Int)), .int .u8 ((x.b11.toNat : Int)), .int .u8 ((x.b12.toNat : Int)), .int .u8 ((x.b13.toNat : Int)), .int .u8 ((x.b14.toNat : Int)), .int .u8 ((x.b15.toNat : Int))] 33) (by kernel_rfl) (by kernel_rfl) ?_
 clear hF hO; intro b1 W1 a hO hF
 replace hO := hO.reblk (cs := #[.bool x.six, .int .u8 ((x.b0.toNat : Int)), .int .u8 ((x.b1.toNat : Int)), .int .u8 ((x.b2.toNat : Int)), .int .u8 ((x.b3.toNat : Int)), .int .u8 ((x.b4.toNat : Int)), .int .u8 ((x.b5.toNat : Int)), .int .u8 ((x.b6.toNat : Int)), .int .u8 ((x.b7.toNat : Int)), .int .u8 ((x.b8.toNat : Int)), .int .u8 ((x.b9.toNat : Int)), .int .u8 ((x.b10.toNat : Int)), .int .u8 ((x.b11.toNat : Int)), .int .u8 ((x.b12.toNat : Int)), .int .u8 ((x.b13.toNat : Int)), .int .u8 ((x.b14.toNat : Int)), .int .u8 ((x.b15.toNat : Int))]) (cs' := (ipL x).toArray) (by kernel_rfl) (.head _)
 refine Vp hF (.int .i64 0) ?_; clear hF; intro a hF
 refine Vp hF (.int .i64 0) ?_; clear hF; intro a hF
 refine L_nil ?_
 refine hK1 _ _ ?_
 refine wp_seq_k fun K2 hK2 => ?_
 refine wp_region_lit ?_
 refine Vp hF (.int .i64 0) ?_; clear hF; intro a hF
 refine Vp hF (.int .i64 0) ?_; clear hF; intro a hF
 refine L_nil ?_
 refine hK2 _ _ ?_
 refine wp_seq_k fun K3 hK3 => ?_
 refine wp_region_lit ?_
 refine Vp hF (.int .i64 0) ?_; clear hF; intro a hF
 refine L_nil ?_
 refine hK3 _ _ ?_
 refine wp_seq_k fun K4 hK4 => ?_
 refine wp_seq_k fun K5 hK5 => ?_
 refine wp_region_lit ?_
 refine Vp hF (.int .i64 0) ?_; clear hF; intro a hF
 refine L_nil ?_
 refine hK5 _ _ ?_
 refine wp_block ?_
 refine loopX (τ := Nat × Int × Int × Int) (fun (xτ : Nat × Int × Int × Int) a Wx => (fun (i : Nat) (f : Int) (m : Int) (r : Int) => (i ≤ 8 ∧ NzI x i f m r ∧ 0 ≤ r ∧ r ≤ i ∧ 0 ≤ m ∧ m ≤ i ∧ 0 ≤ f ∧ f + m ≤ i) ∧ Fr 28 a [(1, .pointer (some ⟨b1, 0, none⟩)), (2, .int .i64 0), (3, .int .i64 0), (4, .int .i64 (f)), (5, .int .i64 (m)), (6, .int .i64 (r)), (8, .int .i64 ((i : Int)))] ∧ Own W noX [.blk b1 (.cells (ipL x).toArray 33 (0, 0))] Wx) (xτ.1) (xτ.2.1) (xτ.2.2.1) (xτ.2.2.2)) (fun (xτ : Nat × Int × Int × Int) => (fun (i : Nat) (f : Int) (m : Int) (r : Int) => 8 - i) (xτ.1) (xτ.2.1) (xτ.2.2.1) (xτ.2.2.2)) ((0, 0, 0, 0)) ⟨(by have hz : NzI x 0 0 0 0 := ⟨rfl, by decide, by decide, by decide, by decide, by decide, by decide⟩; exact ⟨by omega, hz, hz.2⟩), ?_, ?_⟩ ?_
 · exact hF.restrict ⟨(by kernel_rfl), (by kernel_rfl), (by kernel_rfl), (congrArg some (by first | rfl | exact congrArg (Value.int _) (by omega) | simp)), (congrArg some (by first | rfl | exact congrArg (Value.int _) (by omega) | simp)), (congrArg some (by first | rfl | exact congrArg (Value.int _) (by omega) | simp)), (congrArg some (by first | rfl | exact congrArg (Value.int _) (by omega) | simp)), trivial⟩
 · exact hO.sub (.cons_cons _ (List.nil_sublist _))
 clear hF hO; rintro ⟨i, f, m, r⟩ a Wl1 ⟨hI, hF, hO⟩ KhK_1 hK_1
 try dsimp only at hI
 refine wp_seq_k fun K6 hK6 => ?_
 refine wp_region_lit ?_
 refine Vp hF (.bool (decide ((i : Int) < 8))) ?_; clear hF; intro a hF
 refine L_nil ?_
 refine hK6 _ _ ?_
 refine wp_seq_k fun K7 hK7 => ?_
 by_cases q1 : (i : Int) < 8
 ·
  replace hF := hF.know (d := 9) (v' := .bool true) (by kernel_rfl) (congrArg Value.bool (decide_eq_true q1))
  refine cond_t hF (by kernel_rfl) (by kernel_rfl) ?_
  refine wp_skip ?_
  refine hK7 _ _ ?_
  refine wp_seq_k fun K8 hK8 => ?_
  refine wp_block ?_
  refine wp_seq_k fun K9 hK9 => ?_
  refine wp_region_lit ?_
  refine Vp hF (.int .i64 ((i : Int))) ?_; clear hF; intro a hF
  refine Vp hF (.int .i64 ((i : Int))) ?_; clear hF; intro a hF
  refine L_nil ?_
  refine hK9 _ _ ?_
  refine wp_seq_k fun K10 hK10 => ?_
  refine wp_region_lit ?_
  refine Vp hF (.int .i64 (r)) ?_; clear hF; intro a hF
  refine Vr hF (.int .i64 (r + 1)) (x_int (x := IntKind.i64.wrap (r + 1)) (i64In (by omega) (by omega)) (by kernel_rfl)) ?_; clear hF; intro a hF
  refine Vp hF (.int .i64 (r + 1)) ?_; clear hF; intro a hF
  refine L_nil ?_
  refine hK10 _ _ ?_
  refine wp_seq_k fun K11 hK11 => ?_
  refine wp_seq_k fun K12 hK12 => ?_
  refine wp_region_lit ?_
  refine Vr hF (ipV x) (x_load (p := .pointer (some ⟨b1, 0, none⟩)) rfl (by kernel_rfl) (run_loadA (k := 17) (by kernel_rfl) (by kernel_rfl) (hO.blk List.mem_cons_self) (by kernel_rfl) (by kernel_rfl))) ?_; clear hF; intro a hF
  refine Vp hF (.int .i64 ((i : Int))) ?_; clear hF; intro a hF
  refine Lc hF (addr_at x i Wl1 (by omega)) ?_
  clear hF; rintro _ W2 a ⟨rfl, hk⟩ hF
  replace hO := hO.call0 hk; clear hk
  refine Vp hF (.bool (!((atIp x i) == 0))) ?_; clear hF; intro a hF
  refine L_nil ?_
  refine hK12 _ _ ?_
  by_cases q2 : (atIp x i) = 0
  ·
   replace hF := hF.know (d := 16) (v' := .bool false) (by kernel_rfl) (congrArg Value.bool (neF (not_not_intro q2)))
   refine cond_f hF (by kernel_rfl) (by kernel_rfl) ?_
   refine wp_skip ?_
   refine hK11 _ _ ?_
   refine wp_seq_k fun K13 hK13 => ?_
   refine wp_region_lit ?_
   refine Vp hF (.int .i64 (r + 1)) ?_; clear hF; intro a hF
   refine Vp hF (.int .i64 (m)) ?_; clear hF; intro a hF
   refine Vp hF (.bool (decide (r + 1 > m))) ?_; clear hF; intro a hF
   refine L_nil ?_
   refine hK13 _ _ ?_
   by_cases q3 : r + 1 > m
   ·
    replace hF := hF.know (d := 19) (v' := .bool true) (by kernel_rfl) (congrArg Value.bool (decide_eq_true q3))
    refine cond_t hF (by kernel_rfl) (by kernel_rfl) ?_
    refine wp_region_lit ?_
    refine Vp hF (.int .i64 ((i : Int))) ?_; clear hF; intro a hF
    refine Vr hF (.int .i64 ((i : Int) + 1)) (x_int (x := IntKind.i64.wrap ((i : Int) + 1)) (i64In (by omega) (by omega)) (by kernel_rfl)) ?_; clear hF; intro a hF
    refine Vp hF (.int .i64 (r + 1)) ?_; clear hF; intro a hF
    refine Vr hF (.int .i64 (((i : Int) + 1) - (r + 1))) (x_int (x := IntKind.i64.wrap (((i : Int) + 1) - (r + 1))) (i64In (by omega) (by omega)) (by kernel_rfl)) ?_; clear hF; intro a hF
    refine Vp hF (.int .i64 (r + 1)) ?_; clear hF; intro a hF
    refine Vp hF (.int .i64 (((i : Int) + 1) - (r + 1))) ?_; clear hF; intro a hF
    refine Vp hF (.int .i64 (r + 1)) ?_; clear hF; intro a hF
    refine L_nil ?_
    refine block_normal ?_
    refine hK8 _ _ ?_
    refine wp_region_lit ?_
    refine Vr hF (.int .i64 ((i : Int) + 1)) (x_int (x := IntKind.i64.wrap ((i : Int) + 1)) (i64In (by omega) (by omega)) (by kernel_rfl)) ?_; clear hF; intro a hF
    refine Vp hF (.int .i64 ((i : Int) + 1)) ?_; clear hF; intro a hF
    refine L_nil ?_
    refine hK_1 ((i + 1, ((i : Int) + 1) - (r + 1), r + 1, r + 1)) _ _ (by first | omega | (dsimp only; omega)) ⟨(by dsimp only; exact nz_all hI.2.1 (by omega) (by unfold nzStep; first | (simp_all; done) | (simp_all; omega))), ?_, ?_⟩
    · exact hF.restrict ⟨(by kernel_rfl), (by kernel_rfl), (by kernel_rfl), (congrArg some (by first | rfl | exact congrArg (Value.int _) (by omega) | simp)), (congrArg some (by first | rfl | exact congrArg (Value.int _) (by omega) | simp)), (congrArg some (by first | rfl | exact congrArg (Value.int _) (by omega) | simp)), (congrArg some (by first | rfl | exact congrArg (Value.int _) (by omega) | simp)), trivial⟩
    · exact hO.sub (.cons_cons _ (List.nil_sublist _))
   ·
    replace hF := hF.know (d := 19) (v' := .bool false) (by kernel_rfl) (congrArg Value.bool (decide_eq_false q3))
    refine cond_f hF (by kernel_rfl) (by kernel_rfl) ?_
    refine wp_skip ?_
    refine block_normal ?_
    refine hK8 _ _ ?_
    refine wp_region_lit ?_
    refine Vr hF (.int .i64 ((i : Int) + 1)) (x_int (x := IntKind.i64.wrap ((i : Int) + 1)) (i64In (by omega) (by omega)) (by kernel_rfl)) ?_; clear hF; intro a hF
    refine Vp hF (.int .i64 ((i : Int) + 1)) ?_; clear hF; intro a hF
    refine L_nil ?_
    refine hK_1 ((i + 1, f, m, r + 1)) _ _ (by first | omega | (dsimp only; omega)) ⟨(by dsimp only; exact nz_all hI.2.1 (by omega) (by unfold nzStep; first | (simp_all; done) | (simp_all; omega))), ?_, ?_⟩
    · exact hF.restrict ⟨(by kernel_rfl), (by kernel_rfl), (by kernel_rfl), (congrArg some (by first | rfl | exact congrArg (Value.int _) (by omega) | simp)), (congrArg some (by first | rfl | exact congrArg (Value.int _) (by omega) | simp)), (congrArg some (by first | rfl | exact congrArg (Value.int _) (by omega) | simp)), (congrArg some (by first | rfl | exact congrArg (Value.int _) (by omega) | simp)), trivial⟩
    · exact hO.sub (.cons_cons _ (List.nil_sublist _))
  ·
   replace hF := hF.know (d := 16) (v' := .bool true) (by kernel_rfl) (congrArg Value.bool (neT q2))
   refine cond_t hF (by kernel_rfl) (by kernel_rfl) ?_
   refine wp_region_lit ?_
   refine Vp hF (.int .i64 0) ?_; clear hF; intro a hF
   refine L_nil ?_
   refine hK11 _ _ ?_
   refine wp_seq_k fun K14 hK14 => ?_
   refine wp_region_lit ?_
   refine Vp hF (.int .i64 0) ?_; clear hF; intro a hF
   refine Vp hF (.int .i64 (m)) ?_; clear hF; intro a hF
   refine Vp hF (.bool (decide (0 > m))) ?_; clear hF; intro a hF
   refine L_nil ?_
   refine hK14 _ _ ?_
   by_cases q4 : 0 > m
   ·
    replace hF := hF.know (d := 19) (v' := .bool true) (by kernel_rfl) (congrArg Value.bool (decide_eq_true q4))
    refine cond_t hF (by kernel_rfl) (by kernel_rfl) ?_
    refine wp_region_lit ?_
    refine Vp hF (.int .i64 ((i : Int))) ?_; clear hF; intro a hF
    refine Vr hF (.int .i64 ((i : Int) + 1)) (x_int (x := IntKind.i64.wrap ((i : Int) + 1)) (i64In (by omega) (by omega)) (by kernel_rfl)) ?_; clear hF; intro a hF
    refine Vp hF (.int .i64 0) ?_; clear hF; intro a hF
    refine Vr hF (.int .i64 (((i : Int) + 1) - 0)) (x_int (x := IntKind.i64.wrap (((i : Int) + 1) - 0)) (i64In (by omega) (by omega)) (by kernel_rfl)) ?_; clear hF; intro a hF
    refine Vp hF (.int .i64 0) ?_; clear hF; intro a hF
    refine Vp hF (.int .i64 (((i : Int) + 1) - 0)) ?_; clear hF; intro a hF
    refine Vp hF (.int .i64 0) ?_; clear hF; intro a hF
    refine L_nil ?_
    refine block_normal ?_
    refine hK8 _ _ ?_
    refine wp_region_lit ?_
    refine Vr hF (.int .i64 ((i : Int) + 1)) (x_int (x := IntKind.i64.wrap ((i : Int) + 1)) (i64In (by omega) (by omega)) (by kernel_rfl)) ?_; clear hF; intro a hF
    refine Vp hF (.int .i64 ((i : Int) + 1)) ?_; clear hF; intro a hF
    refine L_nil ?_
    refine hK_1 ((i + 1, ((i : Int) + 1) - 0, 0, 0)) _ _ (by first | omega | (dsimp only; omega)) ⟨(by dsimp only; exact nz_all hI.2.1 (by omega) (by unfold nzStep; first | (simp_all; done) | (simp_all; omega))), ?_, ?_⟩
    · exact hF.restrict ⟨(by kernel_rfl), (by kernel_rfl), (by kernel_rfl), (congrArg some (by first | rfl | exact congrArg (Value.int _) (by omega) | simp)), (congrArg some (by first | rfl | exact congrArg (Value.int _) (by omega) | simp)), (congrArg some (by first | rfl | exact congrArg (Value.int _) (by omega) | simp)), (congrArg some (by first | rfl | exact congrArg (Value.int _) (by omega) | simp)), trivial⟩
    · exact hO.sub (.cons_cons _ (List.nil_sublist _))
   ·
    replace hF := hF.know (d := 19) (v' := .bool false) (by kernel_rfl) (congrArg Value.bool (decide_eq_false q4))
    refine cond_f hF (by kernel_rfl) (by kernel_rfl) ?_
    refine wp_skip ?_
    refine block_normal ?_
    refine hK8 _ _ ?_
    refine wp_region_lit ?_
    refine Vr hF (.int .i64 ((i : Int) + 1)) (x_int (x := IntKind.i64.wrap ((i : Int) + 1)) (i64In (by omega) (by omega)) (by kernel_rfl)) ?_; clear hF; intro a hF
    refine Vp hF (.int .i64 ((i : Int) + 1)) ?_; clear hF; intro a hF
    refine L_nil ?_
    refine hK_1 ((i + 1, f, m, 0)) _ _ (by first | omega | (dsimp only; omega)) ⟨(by dsimp only; exact nz_all hI.2.1 (by omega) (by unfold nzStep; first | (simp_all; done) | (simp_all; omega))), ?_, ?_⟩
    · exact hF.restrict ⟨(by kernel_rfl), (by kernel_rfl), (by kernel_rfl), (congrArg some (by first | rfl | exact congrArg (Value.int _) (by omega) | simp)), (congrArg some (by first | rfl | exact congrArg (Value.int _) (by omega) | simp)), (congrArg some (by first | rfl | exact congrArg (Value.int _) (by omega) | simp)), (congrArg some (by first | rfl | exact congrArg (Value.int _) (by omega) | simp)), trivial⟩
    · exact hO.sub (.cons_cons _ (List.nil_sublist _))
 ·
  replace hF := hF.know (d := 9) (v' := .bool false) (by kernel_rfl) (congrArg Value.bool (decide_eq_false q1))
  refine cond_f hF (by kernel_rfl) (by kernel_rfl) ?_
  refine wp_exit ?_
  refine then_exit ?_
  refine then_exit ?_
  refine inBlock_hit ?_
  refine hK4 _ _ ?_
  refine wp_seq_k fun K15 hK15 => ?_
  refine wp_region_lit ?_
  refine Vp hF (.int .i64 (f)) ?_; clear hF; intro a hF
  refine Vp hF (.int .i64 (m)) ?_; clear hF; intro a hF
  refine Vp hF (.int .i64 (f)) ?_; clear hF; intro a hF
  refine Vp hF (.int .i64 (m)) ?_; clear hF; intro a hF
  refine L_nil ?_
  refine hK15 _ _ ?_
  refine wp_ret ?_
  refine ret2 hF (v := .int .i64 (f)) (u := .int .i64 (m)) rfl (resT (by kernel_rfl)) (resT (by kernel_rfl)) (by refine ⟨?_, hO.nil⟩; obtain rfl : i = 8 := (by omega); rw [← hI.2.1.1]) .ret (.inl rfl)

theorem right_no {x : Ip} {n : Nat} (h : x.six = false) (hn : n = 0 ↔ ∀ b ∈ (x.bytes.drop 4).take 12, b = 0) : ((n : Int) == 0) = rightIp x := by
  rw [Bool.eq_iff_iff, rightIp, h, Bool.false_or, decide_eq_true_iff, ← hn, beq_iff_eq]
  omega
set_option maxRecDepth 20000 in
theorem addr_Right (x : Ip) (W : World) : Ret Tryz.prog 24 #[ipV x] W fun v W' => v = .bool (rightIp x) ∧ Own W noX [] W' := by
 refine enter Tryz.func24 rfl (n := 12) rfl (by kernel_rfl) (E0 := [(0, ipV x)]) (by kernel_rfl) ?_
 intro a hF; have hO := Own.start W noX
 refine wp_seq_k fun K1 hK1 => ?_
 refine wp_region_lit ?_
 refine L_new hF hO (by kernel_rfl) (by kernel_rfl) (vf := fun b => .pointer (some ⟨b, 0, none⟩)) (ob := .cells #[.bool x.six, .int .u8 ((x.b0.toNat : Int)), .int .u8 ((x.b1.toNat : Int)), .int .u8 ((x.b2.toNat : Int)), .int .u8 ((x.b3.toNat : Int)), .int .u8 ((x.b4.toNat : Int)), .int .u8 ((x.b5.toNat : Int)), .int .u8 ((x.b6.toNat : Int)), .int .u8 ((x.b7.toNat : Int)), .int .u8 ((x.b8.toNat : Int)), .int .u8 ((x.b9.toNat : Int)), .int .u8 ((x.b10.toNat : Int)), .int .u8 ((x.b11.toNat : Int)), .int .u8 ((x.b12.toNat : Int)), .int .u8 ((x.b13.toNat : Int)), .int .u8 ((x.b14.toNat : Int)), .int .u8 ((x.b15.toNat : Int))] 33) (by kernel_rfl) (by kernel_rfl) ?_
 clear hF hO; intro b1 W1 a hO hF
 replace hO := hO.reblk (cs := #[.bool x.six, .int .u8 ((x.b0.toNat : Int)), .int .u8 ((x.b1.toNat : Int)), .int .u8 ((x.b2.toNat : Int)), .int .u8 ((x.b3.toNat : Int)), .int .u8 ((x.b4.toNat : Int)), .int .u8 ((x.b5.toNat : Int)), .int .u8 ((x.b6.toNat : Int)), .int .u8 ((x.b7.toNat : Int)), .int .u8 ((x.b8.toNat : Int)), .int .u8 ((x.b9.toNat : Int)), .int .u8 ((x.b10.toNat : Int)), .int .u8 ((x.b11.toNat : Int)), .int .u8 ((x.b12.toNat : Int)), .int .u8 ((x.b13.toNat : Int)), .int .u8 ((x.b14.toNat : Int)), .int .u8 ((x.b15.toNat : Int))]) (cs' := (ipL x).toArray) (by kernel_rfl) (.head _)
 refine Vp hF (.bool false) ?_; clear hF; intro a hF
 refine L_nil ?_
 refine hK1 _ _ ?_
 refine wp_seq_k fun K2 hK2 => ?_
 refine wp_region_lit ?_
 refine Vp hF (.pointer (some ⟨b1, 0, none⟩)) ?_; clear hF; intro a hF
 refine Vr hF (.bool x.six) (x_load (p := .pointer (some ⟨b1, 0, none⟩)) rfl (by kernel_rfl) (run_load1 (by kernel_rfl) ((hO.cell List.mem_cons_self).trans (by kernel_rfl)))) ?_; clear hF; intro a hF
 refine Vp hF (.bool x.six) ?_; clear hF; intro a hF
 cases q1 : (x.six : Bool)
 ·
  replace hF := hF.know (d := 5) (v' := .bool false) (by kernel_rfl) (congrArg Value.bool q1)
  refine Vp hF (.pointer (some ⟨b1, 1, none⟩)) ?_; clear hF; intro a hF
  refine Vr hF (.slice (some ⟨b1, 5, none⟩) 12 12) (x_slArr (b := b1) (off := 1) (n := 16) (elem := 5) (lo := 4) (hi := 16) rfl (by kernel_rfl) (by kernel_rfl) (by kernel_rfl) ⟨.i64, (by kernel_rfl)⟩ rfl (by omega) (by omega) (by omega) (by kernel_rfl) (by first | rfl | omega) (by first | rfl | omega)) ?_; clear hF; intro a hF
  refine Lc hF (trim0_ret (some ⟨b1, 1 + 4, none⟩) 12 ((x.bytes.drop 4).take 12) W1 (SlAt.arr hO List.mem_cons_self 4 12 (by omega)) (Nat.lt_of_sub_eq_succ rfl) (Nat.le_of_ble_eq_true rfl) (by decide)) ?_
  clear hF; rintro _ W2 a ⟨q2, nn1, d1, rfl, hn, hk⟩ hF
  replace hO := hO.call0 hk; clear hk
  refine Vp hF (.int .i64 ((nn1 : Int))) ?_; clear hF; intro a hF
  refine Vp hF (.bool ((nn1 : Int) == 0)) ?_; clear hF; intro a hF
  refine Vp hF (.bool ((nn1 : Int) == 0)) ?_; clear hF; intro a hF
  refine Vp hF (.bool ((nn1 : Int) == 0)) ?_; clear hF; intro a hF
  refine L_nil ?_
  refine hK2 _ _ ?_
  refine wp_ret ?_
  refine ret1 hF (v := .bool ((nn1 : Int) == 0)) rfl (resT (by kernel_rfl)) (by refine ⟨?_, hO.nil⟩; first | exact congrArg Value.bool (right_no (by assumption) hn) | (unfold rightIp; simp [*]; done)) .ret (.inl rfl)
 ·
  replace hF := hF.know (d := 5) (v' := .bool true) (by kernel_rfl) (congrArg Value.bool q1)
  refine Lo hF ?_; clear hF; intro a hF
  refine Lo hF ?_; clear hF; intro a hF
  refine Lo hF ?_; clear hF; intro a hF
  refine Lo hF ?_; clear hF; intro a hF
  refine Lo hF ?_; clear hF; intro a hF
  refine Vp hF (.bool true) ?_; clear hF; intro a hF
  refine Vp hF (.bool true) ?_; clear hF; intro a hF
  refine L_nil ?_
  refine hK2 _ _ ?_
  refine wp_ret ?_
  refine ret1 hF (v := .bool true) rfl (resT (by kernel_rfl)) (by refine ⟨?_, hO.nil⟩; first | exact congrArg Value.bool (right_no (by assumption) hn) | (unfold rightIp; simp [*]; done)) .ret (.inl rfl)

end Go.Proofs.YthellfigmpjhlaaGreatDoor
