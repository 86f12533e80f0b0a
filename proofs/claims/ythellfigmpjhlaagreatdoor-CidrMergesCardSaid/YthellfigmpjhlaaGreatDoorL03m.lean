/- The law CidrMerges, walked. -/
import Derived.Test.YthellfigmpjhlaaGreatDoorMrgW
import Derived.Test.YthellfigmpjhlaaGreatDoorMrgR
import Derived.Test.YthellfigmpjhlaaGreatDoorC03
namespace Go.Proofs.YthellfigmpjhlaaGreatDoor
open Go Go.RowKit
set_option linter.unusedVariables false
set_option linter.unusedSimpArgs false
theorem sweep_fold : ∀ (S r : List Pt), (S.foldl sweep1 r).length ≤ r.length + S.length
  | [], r => by simp
  | c :: S, r => by
    have h1 := sweep_fold S (sweep1 r c)
    have h2 := sweep_len (r := r) (c := c)
    simp only [List.foldl_cons, List.length_cons]
    omega
theorem mergeP_len (l : List Pt) : (mergeP l).length ≤ l.length := by
  have h1 := sweep_fold ((l.filter rightCd).mergeSort fun x y => !(Go.Proofs.ltOf cmpCd) y x) []
  rw [List.length_mergeSort] at h1
  have h2 := List.length_filter_le rightCd l
  unfold mergeP sweep
  simp only [List.length_nil] at h1
  omega
def anyTo (x : Ip) (l : List Pt) (i : Nat) : Bool := (l.take i).any fun c => contCd c x
theorem any_t {x : Ip} {l : List Pt} {i : Nat} (hi : i < l.length) (h : anyTo x l i = true) : true = anyTo x l (i + 1) := by
  unfold anyTo at *
  rw [take_one l i hi, List.any_append, h]; rfl
theorem any_f {x : Ip} {l : List Pt} {i : Nat} (hi : i < l.length) (h : anyTo x l i = false) : contCd (nth l i) x = anyTo x l (i + 1) := by
  unfold anyTo at *
  rw [take_one l i hi, List.any_append, h]; simp
theorem any_all {x : Ip} {l : List Pt} {i : Nat} (hi : ¬ i < l.length) : anyTo x l i = l.any fun c => contCd c x := by unfold anyTo; rw [List.take_of_length_le (by omega)]
theorem any_ne {x : Ip} {l : List Pt} {i : Nat} (hi : ¬ i < l.length) (h : ((l.any fun c => contCd c x) == anyTo x l i) = false) : False := by
  rw [any_all hi, beq_self_eq_true] at h
  cases h
set_option maxRecDepth 20000 in
theorem law03_same (p p2 : Option Addr) (cap cap2 : Nat) (l : List Pt) (W : World) (hl : SlAt W p (l.flatMap ptL)) (hm : SlAt W p2 (l.flatMap ptL)) (hn : l.length ≤ 1000) : Ret Tryz.prog 76 #[.slice p l.length cap, .slice p2 l.length cap2] W fun v W' => v = .bool true ∧ Own W noX [] W' := by
 refine enter Tryz.func76 rfl (n := 26) rfl (by kernel_rfl) (E0 := [(1, .slice p2 l.length cap2), (0, .slice p l.length cap)]) (by kernel_rfl) ?_
 intro a hF; have hO := Own.start W noX
 refine wp_seq_k fun K1 hK1 => ?_
 refine wp_region_lit ?_
 refine Vp hF (.bool false) ?_; clear hF; intro a hF
 refine L_nil ?_
 refine hK1 _ _ ?_
 refine wp_seq_k fun K2 hK2 => ?_
 refine wp_seq_k fun K3 hK3 => ?_
 refine wp_region_lit ?_
 refine Vp hF (.slice p l.length cap) ?_; clear hF; intro a hF
 refine Vp hF (.int .i64 ((l.length : Int))) ?_; clear hF; intro a hF
 refine Vp hF (.slice p2 l.length cap2) ?_; clear hF; intro a hF
 refine Vp hF (.int .i64 ((l.length : Int))) ?_; clear hF; intro a hF
 refine Vr hF (.bool false) (x_bool (x := !((l.length : Int) == (l.length : Int))) (notF (beq_self_eq_true _)) (by kernel_rfl)) ?_; clear hF; intro a hF
 refine L_nil ?_
 refine hK3 _ _ ?_
 refine cond_f hF (by kernel_rfl) (by kernel_rfl) ?_
 refine wp_skip ?_
 refine hK2 _ _ ?_
 refine wp_seq_k fun K4 hK4 => ?_
 refine wp_seq_k fun K5 hK5 => ?_
 refine wp_region_lit ?_
 refine Vp hF (.slice p l.length cap) ?_; clear hF; intro a hF
 refine Vp hF (.int .i64 ((l.length : Int))) ?_; clear hF; intro a hF
 refine Vp hF (.int .i64 0) ?_; clear hF; intro a hF
 refine L_nil ?_
 refine hK5 _ _ ?_
 refine wp_block ?_
 refine loopX (τ := Nat) (fun (i : Nat) a Wx => (i ≤ l.length) ∧ Fr 26 a [(0, .slice p l.length cap), (1, .slice p2 l.length cap2), (12, .int .i64 ((l.length : Int))), (13, .int .i64 ((i : Int)))] ∧ Own W noX [] Wx) (fun (i : Nat) => l.length - i) (0) ⟨Nat.zero_le _, ?_, ?_⟩ ?_
 · exact hF.restrict ⟨(by kernel_rfl), (by kernel_rfl), (by kernel_rfl), (congrArg some (by first | rfl | exact congrArg (Value.int _) (by omega) | simp)), trivial⟩
 · exact hO.sub (List.nil_sublist _)
 clear hF hO; rintro i a Wl1 ⟨hI, hF, hO⟩ KhK_1 hK_1
 try dsimp only at hI
 refine wp_seq_k fun K6 hK6 => ?_
 refine wp_region_lit ?_
 refine Vp hF (.bool (decide ((i : Int) < (l.length : Int)))) ?_; clear hF; intro a hF
 refine L_nil ?_
 refine hK6 _ _ ?_
 refine wp_seq_k fun K7 hK7 => ?_
 by_cases q1 : (i : Int) < (l.length : Int)
 ·
  replace hF := hF.know (d := 14) (v' := .bool true) (by kernel_rfl) (congrArg Value.bool (decide_eq_true q1))
  refine cond_t hF (by kernel_rfl) (by kernel_rfl) ?_
  refine wp_skip ?_
  refine hK7 _ _ ?_
  refine wp_seq_k fun K8 hK8 => ?_
  refine wp_block ?_
  refine wp_seq_k fun K9 hK9 => ?_
  refine wp_region_lit ?_
  refine Vp hF (.int .i64 ((i : Int))) ?_; clear hF; intro a hF
  refine Vp hF (.int .i64 ((i : Int))) ?_; clear hF; intro a hF
  refine L_nil ?_
  refine hK9 _ _ ?_
  refine wp_seq_k fun K10 hK10 => ?_
  refine A_start (fun Wx => Own W noX [] Wx) (by kernel_rfl) ?_
  replace hO := hO.drewN 1
  generalize hWd : ({ Wl1 with drawn := Wl1.drawn + 1 } : World) = Wl1_d at hO ⊢; clear hWd
  have hS := hO.sub (List.nil_sublist _)
  refine Tk 0 rfl hF (.slice p l.length cap) (fun Wx _ => by kernel_rfl) hS ?_; clear hF; intro a hF
  refine Tk 1 rfl hF (.int .i64 ((i : Int))) (fun Wx _ => by kernel_rfl) hS ?_; clear hF; intro a hF
  refine Tk 2 rfl hF (.pointer (some ⟨(ab p), ao p + i * 18, none⟩)) (fun Wx _ => (x_idxAddrS (p := p) (len := l.length) (cap := cap) (elem := 68) (kd := .i64) (k := 18) (i := (i : Int)) rfl (by kernel_rfl) (by kernel_rfl) (by kernel_rfl) (by kernel_rfl) (by omega) (by omega) (SlAt.ne (k := 18) (hl.own hO) (fun _ => rfl) (by decide) (by (first | omega | (simp only [List.length_set, List.length_take, List.length_drop, List.length_append, List.length_cons, List.length_nil]; done) | (simp only [List.length_set, List.length_take, List.length_drop, List.length_append, List.length_cons, List.length_nil]; omega) | (simp only [List.length_set, List.length_take, List.length_drop, List.length_append, List.length_cons, List.length_nil] at *; omega)) : i < l.length)))) hS ?_; clear hF; intro a hF
  refine Tk 3 rfl hF (ptV (nth l i)) (fun Wx hO => x_load (p := .pointer (some ⟨(ab p), ao p + i * 18, none⟩)) rfl (by kernel_rfl) (run_loadEl (k := 18) (by kernel_rfl) (by kernel_rfl) (hl.own hO) (fun _ => rfl) (by (first | omega | (simp only [List.length_set, List.length_take, List.length_drop, List.length_append, List.length_cons, List.length_nil]; done) | (simp only [List.length_set, List.length_take, List.length_drop, List.length_append, List.length_cons, List.length_nil]; omega) | (simp only [List.length_set, List.length_take, List.length_drop, List.length_append, List.length_cons, List.length_nil] at *; omega))) rfl)) hS ?_; clear hF; intro a hF
  refine Tk 4 rfl hF (.slice p2 l.length cap2) (fun Wx _ => by kernel_rfl) hS ?_; clear hF; intro a hF
  refine Tk 5 rfl hF (.int .i64 ((i : Int))) (fun Wx _ => by kernel_rfl) hS ?_; clear hF; intro a hF
  refine Tk 6 rfl hF (.pointer (some ⟨(ab p2), ao p2 + i * 18, none⟩)) (fun Wx _ => (x_idxAddrS (p := p2) (len := l.length) (cap := cap2) (elem := 68) (kd := .i64) (k := 18) (i := (i : Int)) rfl (by kernel_rfl) (by kernel_rfl) (by kernel_rfl) (by kernel_rfl) (by omega) (by omega) (SlAt.ne (k := 18) (hm.own hO) (fun _ => rfl) (by decide) (by (first | omega | (simp only [List.length_set, List.length_take, List.length_drop, List.length_append, List.length_cons, List.length_nil]; done) | (simp only [List.length_set, List.length_take, List.length_drop, List.length_append, List.length_cons, List.length_nil]; omega) | (simp only [List.length_set, List.length_take, List.length_drop, List.length_append, List.length_cons, List.length_nil] at *; omega)) : i < l.length)))) hS ?_; clear hF; intro a hF
  refine Tk 7 rfl hF (ptV (nth l i)) (fun Wx hO => x_load (p := .pointer (some ⟨(ab p2), ao p2 + i * 18, none⟩)) rfl (by kernel_rfl) (run_loadEl (k := 18) (by kernel_rfl) (by kernel_rfl) (hm.own hO) (fun _ => rfl) (by (first | omega | (simp only [List.length_set, List.length_take, List.length_drop, List.length_append, List.length_cons, List.length_nil]; done) | (simp only [List.length_set, List.length_take, List.length_drop, List.length_append, List.length_cons, List.length_nil]; omega) | (simp only [List.length_set, List.length_take, List.length_drop, List.length_append, List.length_cons, List.length_nil] at *; omega))) rfl)) hS ?_; clear hF; intro a hF
  refine Tk 8 rfl hF (.bool false) (fun Wx _ => (x_bool (x := !(decide ((nth l i) = (nth l i)))) (notF (decide_eq_true rfl)) (x_neCd (a := (nth l i)) (b := (nth l i)) rfl (by kernel_rfl) (by kernel_rfl)))) hS ?_; clear hF; intro a hF
  refine A_done (by kernel_rfl) ?_
  refine hK10 _ _ ?_
  refine cond_f hF (by kernel_rfl) (by kernel_rfl) ?_
  refine wp_skip ?_
  refine block_normal ?_
  refine hK8 _ _ ?_
  refine wp_region_lit ?_
  refine Vr hF (.int .i64 ((i : Int) + 1)) (x_int (x := IntKind.i64.wrap ((i : Int) + 1)) (i64In (by omega) (by omega)) (by kernel_rfl)) ?_; clear hF; intro a hF
  refine Vp hF (.int .i64 ((i : Int) + 1)) ?_; clear hF; intro a hF
  refine L_nil ?_
  refine hK_1 (i + 1) _ _ (by first | omega | (dsimp only; omega)) ⟨by omega, ?_, ?_⟩
  · exact hF.restrict ⟨(by kernel_rfl), (by kernel_rfl), (by kernel_rfl), (congrArg some (by first | rfl | exact congrArg (Value.int _) (by omega) | simp)), trivial⟩
  · exact hO.sub (List.nil_sublist _)
 ·
  replace hF := hF.know (d := 14) (v' := .bool false) (by kernel_rfl) (congrArg Value.bool (decide_eq_false q1))
  refine cond_f hF (by kernel_rfl) (by kernel_rfl) ?_
  refine wp_exit ?_
  refine then_exit ?_
  refine then_exit ?_
  refine inBlock_hit ?_
  refine hK4 _ _ ?_
  refine wp_seq_k fun K11 hK11 => ?_
  refine wp_region_lit ?_
  refine Vp hF (.bool true) ?_; clear hF; intro a hF
  refine L_nil ?_
  refine hK11 _ _ ?_
  refine wp_ret ?_
  refine ret1 hF (v := .bool true) rfl (resT (by kernel_rfl)) (by refine ⟨?_, hO.nil⟩; first | rfl | (exfalso; simp_all; done) | (exfalso; omega)) .ret (.inl rfl)

set_option maxRecDepth 20000 in
theorem law03_CidrMerges (I : List Nat) (ea : Nat → Addr) (p : Option Addr) (cap : Nat) (l : List Pt) (x : Ip) (W : World) (hG : LibW W) (hE : Errs I ea W) (h3 : I.contains 3 = true) (h0 : I.contains 0 = true) (h7 : I.contains 7 = true) (hl : SlAt W p (l.flatMap ptL)) (hcap : l.length ≤ cap) : Ret Tryz.prog 13 #[.slice p l.length cap, ipV x] W fun v W' => v = .bool true ∧ Own W noX [] W' := by
 have hml := mergeP_len l
 refine enter Tryz.func13 rfl (n := 56) rfl (by kernel_rfl) (E0 := [(1, ipV x), (0, .slice p l.length cap)]) (by kernel_rfl) ?_
 intro a hF; have hO := Own.start W noX
 refine wp_seq_k fun K1 hK1 => ?_
 refine wp_region_lit ?_
 refine L_new hF hO (by kernel_rfl) (by kernel_rfl) (vf := fun b => .pointer (some ⟨b, 0, none⟩)) (ob := .cells #[.bool x.six, .int .u8 ((x.b0.toNat : Int)), .int .u8 ((x.b1.toNat : Int)), .int .u8 ((x.b2.toNat : Int)), .int .u8 ((x.b3.toNat : Int)), .int .u8 ((x.b4.toNat : Int)), .int .u8 ((x.b5.toNat : Int)), .int .u8 ((x.b6.toNat : Int)), .int .u8 ((x.b7.toNat : Int)), .int .u8 ((x.b8.toNat : Int)), .int .u8 ((x.b9.toNat : Int)), .int .u8 ((x.b10.toNat : Int)), .int .u8 ((x.b11.toNat : Int)), .int .u8 ((x.b12.toNat : Int)), .int .u8 ((x.b13.toNat : Int)), .int .u8 ((x.b14.toNat : Int)), .int .u8 ((x.b15.toNat : Int))] 33) (by kernel_rfl) (by kernel_rfl) ?_
 clear hF hO; intro b1 W1 a hO hF
 replace hO := hO.reblk (cs := #[.bool x.six, .int .u8 ((x.b0.toNat : Int)), .int .u8 ((x.b1.toNat : Int)), .int .u8 ((x.b2.toNat : Int)), .int .u8 ((x.b3.toNat : Int)), .int .u8 ((x.b4.toNat : Int)), .int .u8 ((x.b5.toNat : Int)), .int .u8 ((x.b6.toNat : Int)), .int .u8 ((x.b7.toNat : Int)), .int .u8 ((x.b8.toNat : Int)), .int .u8 ((x.b9.toNat : Int)), .int .u8 ((x.b10.toNat : Int)), .int .u8 ((x.b11.toNat : Int)), .int .u8 ((x.b12.toNat : Int)), .int .u8 ((x.b13.toNat : Int)), .int .u8 ((x.b14.toNat : Int)), .int .u8 ((x.b15.toNat : Int))]) (cs' := (ipL x).toArray) (by kernel_rfl) (.head _)
 refine Vp hF (.bool false) ?_; clear hF; intro a hF
 refine L_nil ?_
 refine hK1 _ _ ?_
 refine wp_seq_k fun K2 hK2 => ?_
 refine wp_seq_k fun K3 hK3 => ?_
 refine wp_region_lit ?_
 refine Lc hF (law03_alive I ea W1 (hG.own hO) (hE.own hO) h3 h0 h7) ?_
 clear hF; rintro _ W2 a ⟨rfl, hk⟩ hF
 replace hO := hO.call0 hk; clear hk
 refine Vp hF (.bool false) ?_; clear hF; intro a hF
 refine L_nil ?_
 refine hK3 _ _ ?_
 refine cond_f hF (by kernel_rfl) (by kernel_rfl) ?_
 refine wp_skip ?_
 refine hK2 _ _ ?_
 refine wp_seq_k fun K4 hK4 => ?_
 refine wp_seq_k fun K5 hK5 => ?_
 refine wp_region_lit ?_
 refine Vp hF (.slice p l.length cap) ?_; clear hF; intro a hF
 refine Vp hF (.int .i64 ((l.length : Int))) ?_; clear hF; intro a hF
 refine Vp hF (.bool (decide ((l.length : Int) > 30))) ?_; clear hF; intro a hF
 refine L_nil ?_
 refine hK5 _ _ ?_
 by_cases q1 : (l.length : Int) > 30
 ·
  replace hF := hF.know (d := 14) (v' := .bool true) (by kernel_rfl) (congrArg Value.bool (decide_eq_true q1))
  refine cond_t hF (by kernel_rfl) (by kernel_rfl) ?_
  refine wp_seq_k fun K6 hK6 => ?_
  refine wp_region_lit ?_
  refine Vp hF (.bool true) ?_; clear hF; intro a hF
  refine L_nil ?_
  refine hK6 _ _ ?_
  refine wp_ret ?_
  refine then_ret ?_
  refine ret1 hF (v := .bool true) rfl (resT (by kernel_rfl)) (by refine ⟨?_, hO.nil⟩; first | rfl | (rw [any_all (by omega)]; simp; done) | (exfalso; exact any_ne (x := x) (l := l) (i := i) (by omega) (by assumption)) | (exfalso; simp_all; done)) .ret (.inl rfl)
 ·
  replace hF := hF.know (d := 14) (v' := .bool false) (by kernel_rfl) (congrArg Value.bool (decide_eq_false q1))
  refine cond_f hF (by kernel_rfl) (by kernel_rfl) ?_
  refine wp_skip ?_
  refine hK4 _ _ ?_
  refine wp_seq_k fun K7 hK7 => ?_
  refine wp_region_lit ?_
  refine L_new hF hO (by kernel_rfl) (by kernel_rfl) (vf := fun b => .slice (some ⟨b, 0, none⟩) 0 0) (ob := .cells #[] 68) (by kernel_rfl) (by kernel_rfl) ?_
  clear hF hO; intro b2 W3 a hO hF
  refine Vp hF (.slice p l.length cap) ?_; clear hF; intro a hF
  replace hO := hO.asRow (k := 18) (cap := 0) ptL ([] : List Pt) (.head _) (by decide) (by kernel_rfl) (by decide) (by kernel_rfl)
  obtain ⟨p1, cap1, W4, hap, hO1, -⟩ := run_append_row (P := Tryz.prog) (ty := 92) (t := 92) (z := .agg #[.bool false, .int .u8 0, .int .u8 0, .int .u8 0, .int .u8 0, .int .u8 0, .int .u8 0, .int .u8 0, .int .u8 0, .int .u8 0, .int .u8 0, .int .u8 0, .int .u8 0, .int .u8 0, .int .u8 0, .int .u8 0, .int .u8 0, .int .i64 0]) (k := 18) (bytes := 32) (q := p) (ys := l) (cq := cap) hO (.head _) (by kernel_rfl) (by kernel_rfl) (by kernel_rfl) (by decide) (fun _ => rfl) (fun _ => rfl) (hl.own hO) (by (try simp only [List.length_append, List.length_take, List.length_drop, List.length_cons, List.length_nil, maxLen]); omega) (by (try simp only [List.length_append, List.length_take, List.length_drop, List.length_cons, List.length_nil, maxLen]); omega)
  refine L_valW hF (by kernel_rfl) (by kernel_rfl) (x_app hap rfl (by kernel_rfl) (by kernel_rfl) rfl) (by kernel_rfl) ?_
  clear hap hF; intro a hF; replace hO := hO1; clear hO1
  refine Vp hF (.slice p1 l.length cap1) ?_; clear hF; intro a hF
  refine L_nil ?_
  refine hK7 _ _ ?_
  refine wp_seq_k fun K8 hK8 => ?_
  refine wp_region_lit ?_
  refine Vp hF (.slice p1 l.length cap1) ?_; clear hF; intro a hF
  refine Lc hF (cidr_Merge (p1) cap1 l W4 (hO.row List.mem_cons_self) (by omega)) ?_
  clear hF; rintro _ W5 a ⟨q2, qc1, rfl, hk⟩ hF
  replace hO := hO.call1 hk; clear hk
  refine Vp hF (.slice q2 ((mergeP l).length) qc1) ?_; clear hF; intro a hF
  refine L_nil ?_
  refine hK8 _ _ ?_
  refine wp_seq_k fun K9 hK9 => ?_
  refine wp_region_lit ?_
  refine Vp hF (.bool false) ?_; clear hF; intro a hF
  refine L_nil ?_
  refine hK9 _ _ ?_
  refine wp_seq_k fun K10 hK10 => ?_
  refine wp_seq_k fun K11 hK11 => ?_
  refine wp_region_lit ?_
  refine Vp hF (.slice p l.length cap) ?_; clear hF; intro a hF
  refine Vp hF (.int .i64 ((l.length : Int))) ?_; clear hF; intro a hF
  refine Vp hF (.int .i64 0) ?_; clear hF; intro a hF
  refine L_nil ?_
  refine hK11 _ _ ?_
  refine wp_block ?_
  refine loopX (τ := Nat) (fun (i : Nat) a Wx => (i ≤ l.length) ∧ Fr 56 a [(0, .slice p l.length cap), (3, .pointer (some ⟨b1, 0, none⟩)), (4, .bool false), (5, .slice p1 l.length cap1), (6, .slice q2 ((mergeP l).length) qc1), (7, .bool (anyTo x l i)), (20, .slice p l.length cap), (21, .int .i64 ((l.length : Int))), (22, .int .i64 ((i : Int)))] ∧ Own W noX [rowL ptL 18 68 q2 qc1 (mergeP l), rowL ptL 18 68 p1 cap1 l, .blk b1 (.cells (ipL x).toArray 33 (0, 0))] Wx) (fun (i : Nat) => l.length - i) (0) ⟨Nat.zero_le _, ?_, ?_⟩ ?_
  · exact hF.restrict ⟨(by kernel_rfl), (by kernel_rfl), (by kernel_rfl), (by kernel_rfl), (by kernel_rfl), (congrArg some (by rfl)), (by kernel_rfl), (by kernel_rfl), (congrArg some (by first | rfl | exact congrArg (Value.int _) (by omega) | simp)), trivial⟩
  · exact hO.sub (.cons_cons _ (.cons_cons _ (.cons_cons _ (List.nil_sublist _))))
  clear hF hO; rintro i a Wl1 ⟨hI, hF, hO⟩ KhK_1 hK_1
  try dsimp only at hI
  refine wp_seq_k fun K12 hK12 => ?_
  refine wp_region_lit ?_
  refine Vp hF (.bool (decide ((i : Int) < (l.length : Int)))) ?_; clear hF; intro a hF
  refine L_nil ?_
  refine hK12 _ _ ?_
  refine wp_seq_k fun K13 hK13 => ?_
  by_cases q3 : (i : Int) < (l.length : Int)
  ·
   replace hF := hF.know (d := 23) (v' := .bool true) (by kernel_rfl) (congrArg Value.bool (decide_eq_true q3))
   refine cond_t hF (by kernel_rfl) (by kernel_rfl) ?_
   refine wp_skip ?_
   refine hK13 _ _ ?_
   refine wp_seq_k fun K14 hK14 => ?_
   refine wp_block ?_
   refine wp_seq_k fun K15 hK15 => ?_
   refine wp_region_lit ?_
   refine Vr hF (.pointer (some ⟨(ab p), ao p + i * 18, none⟩)) (x_idxAddrS (p := p) (len := l.length) (cap := cap) (elem := 68) (kd := .i64) (k := 18) (i := (i : Int)) rfl (by kernel_rfl) (by kernel_rfl) (by kernel_rfl) (by kernel_rfl) (by omega) (by omega) (SlAt.ne (k := 18) (hl.own hO) (fun _ => rfl) (by decide) (by (first | omega | (simp only [List.length_set, List.length_take, List.length_drop, List.length_append, List.length_cons, List.length_nil]; done) | (simp only [List.length_set, List.length_take, List.length_drop, List.length_append, List.length_cons, List.length_nil]; omega) | (simp only [List.length_set, List.length_take, List.length_drop, List.length_append, List.length_cons, List.length_nil] at *; omega)) : i < l.length))) ?_; clear hF; intro a hF
   refine Vr hF (ptV (nth l i)) (x_load (p := .pointer (some ⟨(ab p), ao p + i * 18, none⟩)) rfl (by kernel_rfl) (run_loadEl (k := 18) (by kernel_rfl) (by kernel_rfl) (hl.own hO) (fun _ => rfl) (by (first | omega | (simp only [List.length_set, List.length_take, List.length_drop, List.length_append, List.length_cons, List.length_nil]; done) | (simp only [List.length_set, List.length_take, List.length_drop, List.length_append, List.length_cons, List.length_nil]; omega) | (simp only [List.length_set, List.length_take, List.length_drop, List.length_append, List.length_cons, List.length_nil] at *; omega))) rfl)) ?_; clear hF; intro a hF
   refine L_new hF hO (by kernel_rfl) (by kernel_rfl) (vf := fun b => .pointer (some ⟨b, 0, none⟩)) (ob := .cells #[.bool false, .int .u8 0, .int .u8 0, .int .u8 0, .int .u8 0, .int .u8 0, .int .u8 0, .int .u8 0, .int .u8 0, .int .u8 0, .int .u8 0, .int .u8 0, .int .u8 0, .int .u8 0, .int .u8 0, .int .u8 0, .int .u8 0, .int .i64 0] 68) (by kernel_rfl) (by kernel_rfl) ?_
   clear hF hO; intro b3 W6 a hO hF
   obtain ⟨W7, hst, hO1⟩ := run_storeAt (P := Tryz.prog) (k := 18) (T := 68) (off := 0) (v := ptV (nth l i)) (cs := #[.bool false, .int .u8 0, .int .u8 0, .int .u8 0, .int .u8 0, .int .u8 0, .int .u8 0, .int .u8 0, .int .u8 0, .int .u8 0, .int .u8 0, .int .u8 0, .int .u8 0, .int .u8 0, .int .u8 0, .int .u8 0, .int .u8 0, .int .i64 0]) (cs' := #[.bool (((nth l i).ip).six), .int .u8 ((((nth l i).ip).b0.toNat : Int)), .int .u8 ((((nth l i).ip).b1.toNat : Int)), .int .u8 ((((nth l i).ip).b2.toNat : Int)), .int .u8 ((((nth l i).ip).b3.toNat : Int)), .int .u8 ((((nth l i).ip).b4.toNat : Int)), .int .u8 ((((nth l i).ip).b5.toNat : Int)), .int .u8 ((((nth l i).ip).b6.toNat : Int)), .int .u8 ((((nth l i).ip).b7.toNat : Int)), .int .u8 ((((nth l i).ip).b8.toNat : Int)), .int .u8 ((((nth l i).ip).b9.toNat : Int)), .int .u8 ((((nth l i).ip).b10.toNat : Int)), .int .u8 ((((nth l i).ip).b11.toNat : Int)), .int .u8 ((((nth l i).ip).b12.toNat : Int)), .int .u8 ((((nth l i).ip).b13.toNat : Int)), .int .u8 ((((nth l i).ip).b14.toNat : Int)), .int .u8 ((((nth l i).ip).b15.toNat : Int)), .int .i64 ((nth l i).port)]) hO (by kernel_rfl) (by kernel_rfl) (by kernel_rfl) (Nat.le_of_ble_eq_true (by kernel_rfl)) (by kernel_rfl) (.head _)
   refine L_skip hF (by kernel_rfl) (by kernel_rfl) (x_store (p := .pointer (some ⟨b3, 0, none⟩)) (v := ptV (nth l i)) rfl (by kernel_rfl) (by kernel_rfl) hst) (by kernel_rfl) ?_
   clear hst hF; intro a hF; replace hO := hO1; clear hO1
   refine L_nil ?_
   refine hK15 _ _ ?_
   refine wp_region_lit ?_
   refine Vp hF (.bool (anyTo x l i)) ?_; clear hF; intro a hF
   refine Vp hF (.bool (anyTo x l i)) ?_; clear hF; intro a hF
   cases q4 : (anyTo x l i : Bool)
   ·
    replace hF := hF.know (d := 27) (v' := .bool false) (by kernel_rfl) (congrArg Value.bool q4)
    refine Vr hF (.agg #[.bool (((nth l i).ip).six), .int .u8 ((((nth l i).ip).b0.toNat : Int)), .int .u8 ((((nth l i).ip).b1.toNat : Int)), .int .u8 ((((nth l i).ip).b2.toNat : Int)), .int .u8 ((((nth l i).ip).b3.toNat : Int)), .int .u8 ((((nth l i).ip).b4.toNat : Int)), .int .u8 ((((nth l i).ip).b5.toNat : Int)), .int .u8 ((((nth l i).ip).b6.toNat : Int)), .int .u8 ((((nth l i).ip).b7.toNat : Int)), .int .u8 ((((nth l i).ip).b8.toNat : Int)), .int .u8 ((((nth l i).ip).b9.toNat : Int)), .int .u8 ((((nth l i).ip).b10.toNat : Int)), .int .u8 ((((nth l i).ip).b11.toNat : Int)), .int .u8 ((((nth l i).ip).b12.toNat : Int)), .int .u8 ((((nth l i).ip).b13.toNat : Int)), .int .u8 ((((nth l i).ip).b14.toNat : Int)), .int .u8 ((((nth l i).ip).b15.toNat : Int)), .int .i64 ((nth l i).port)]) (x_load (p := .pointer (some ⟨b3, 0, none⟩)) rfl (by kernel_rfl) (run_loadA (k := 18) (by kernel_rfl) (by kernel_rfl) (hO.blk List.mem_cons_self) (by kernel_rfl) (by kernel_rfl))) ?_; clear hF; intro a hF
    refine Vr hF (ipV x) (x_load (p := .pointer (some ⟨b1, 0, none⟩)) rfl (by kernel_rfl) (run_loadA (k := 17) (by kernel_rfl) (by kernel_rfl) (hO.blk (List.mem_cons_of_mem _ (List.mem_cons_of_mem _ (List.mem_cons_of_mem _ List.mem_cons_self)))) (by kernel_rfl) (by kernel_rfl))) ?_; clear hF; intro a hF
    refine Lc hF (ref03_Contains (nth l i) x W7) ?_
    clear hF; rintro _ W8 a ⟨rfl, hk⟩ hF
    replace hO := hO.call0 hk; clear hk
    refine Vp hF (.bool (contCd (nth l i) x)) ?_; clear hF; intro a hF
    refine Vp hF (.bool (contCd (nth l i) x)) ?_; clear hF; intro a hF
    refine L_nil ?_
    refine block_normal ?_
    refine hK14 _ _ ?_
    refine wp_region_lit ?_
    refine Vr hF (.int .i64 ((i : Int) + 1)) (x_int (x := IntKind.i64.wrap ((i : Int) + 1)) (i64In (by omega) (by omega)) (by kernel_rfl)) ?_; clear hF; intro a hF
    refine Vp hF (.int .i64 ((i : Int) + 1)) ?_; clear hF; intro a hF
    refine L_nil ?_
    refine hK_1 (i + 1) _ _ (by first | omega | (dsimp only; omega)) ⟨by omega, ?_, ?_⟩
    · exact hF.restrict ⟨(by kernel_rfl), (by kernel_rfl), (by kernel_rfl), (by kernel_rfl), (by kernel_rfl), (congrArg some (by first | exact congrArg Value.bool (any_t (by omega) (by assumption)) | exact congrArg Value.bool (any_f (by omega) (by assumption)))), (by kernel_rfl), (by kernel_rfl), (congrArg some (by first | rfl | exact congrArg (Value.int _) (by omega))), trivial⟩
    · exact hO.sub (.cons _ (.cons_cons _ (.cons_cons _ (.cons_cons _ (List.nil_sublist _)))))
   ·
    replace hF := hF.know (d := 27) (v' := .bool true) (by kernel_rfl) (congrArg Value.bool q4)
    refine Lo hF ?_; clear hF; intro a hF
    refine Lo hF ?_; clear hF; intro a hF
    refine Lo hF ?_; clear hF; intro a hF
    refine Vp hF (.bool true) ?_; clear hF; intro a hF
    refine Vp hF (.bool true) ?_; clear hF; intro a hF
    refine L_nil ?_
    refine block_normal ?_
    refine hK14 _ _ ?_
    refine wp_region_lit ?_
    refine Vr hF (.int .i64 ((i : Int) + 1)) (x_int (x := IntKind.i64.wrap ((i : Int) + 1)) (i64In (by omega) (by omega)) (by kernel_rfl)) ?_; clear hF; intro a hF
    refine Vp hF (.int .i64 ((i : Int) + 1)) ?_; clear hF; intro a hF
    refine L_nil ?_
    refine hK_1 (i + 1) _ _ (by first | omega | (dsimp only; omega)) ⟨by omega, ?_, ?_⟩
    · exact hF.restrict ⟨(by kernel_rfl), (by kernel_rfl), (by kernel_rfl), (by kernel_rfl), (by kernel_rfl), (congrArg some (by first | exact congrArg Value.bool (any_t (by omega) (by assumption)) | exact congrArg Value.bool (any_f (by omega) (by assumption)))), (by kernel_rfl), (by kernel_rfl), (congrArg some (by first | rfl | exact congrArg (Value.int _) (by omega))), trivial⟩
    · exact hO.sub (.cons _ (.cons_cons _ (.cons_cons _ (.cons_cons _ (List.nil_sublist _)))))
  ·
   replace hF := hF.know (d := 23) (v' := .bool false) (by kernel_rfl) (congrArg Value.bool (decide_eq_false q3))
   refine cond_f hF (by kernel_rfl) (by kernel_rfl) ?_
   refine wp_exit ?_
   refine then_exit ?_
   refine then_exit ?_
   refine inBlock_hit ?_
   refine hK10 _ _ ?_
   refine wp_seq_k fun K16 hK16 => ?_
   refine wp_region_lit ?_
   refine Vp hF (.slice q2 ((mergeP l).length) qc1) ?_; clear hF; intro a hF
   refine Vp hF (.slice p l.length cap) ?_; clear hF; intro a hF
   refine Lc hF (ref03_Merge (p) cap l Wl1 (hl.own hO) (by omega)) ?_
   clear hF; rintro _ W9 a ⟨q5, qc2, rfl, hk⟩ hF
   replace hO := hO.call1 hk; clear hk
   refine Lc hF (law03_same (q2) (q5) qc1 qc2 (mergeP l) W9 (hO.row (List.mem_cons_of_mem _ List.mem_cons_self)) (hO.row List.mem_cons_self) (by omega)) ?_
   clear hF; rintro _ W10 a ⟨rfl, hk⟩ hF
   replace hO := hO.call0 hk; clear hk
   refine Vp hF (.bool true) ?_; clear hF; intro a hF
   refine Vp hF (.slice p1 l.length cap1) ?_; clear hF; intro a hF
   refine Vp hF (.slice p l.length cap) ?_; clear hF; intro a hF
   refine Lc hF (law03_same (p1) (p) cap1 cap l W10 (hO.row (List.mem_cons_of_mem _ (List.mem_cons_of_mem _ List.mem_cons_self))) (hl.own hO) (by omega)) ?_
   clear hF; rintro _ W11 a ⟨rfl, hk⟩ hF
   replace hO := hO.call0 hk; clear hk
   refine Vp hF (.bool true) ?_; clear hF; intro a hF
   refine Vp hF (.bool true) ?_; clear hF; intro a hF
   refine Vp hF (.slice p l.length cap) ?_; clear hF; intro a hF
   refine Vr hF (ipV x) (x_load (p := .pointer (some ⟨b1, 0, none⟩)) rfl (by kernel_rfl) (run_loadA (k := 17) (by kernel_rfl) (by kernel_rfl) (hO.blk (List.mem_cons_of_mem _ (List.mem_cons_of_mem _ (List.mem_cons_of_mem _ List.mem_cons_self)))) (by kernel_rfl) (by kernel_rfl))) ?_; clear hF; intro a hF
   refine Lc hF (cidr_Any (p) cap l x W11 (hl.own hO) (by omega)) ?_
   clear hF; rintro _ W12 a ⟨rfl, hk⟩ hF
   replace hO := hO.call0 hk; clear hk
   refine Vp hF (.bool (anyTo x l i)) ?_; clear hF; intro a hF
   refine Vp hF (.bool ((l.any fun c => contCd c x) == (anyTo x l i))) ?_; clear hF; intro a hF
   refine Vp hF (.bool ((l.any fun c => contCd c x) == (anyTo x l i))) ?_; clear hF; intro a hF
   refine Vp hF (.bool ((l.any fun c => contCd c x) == (anyTo x l i))) ?_; clear hF; intro a hF
   cases q6 : ((l.any fun c => contCd c x) == (anyTo x l i) : Bool)
   ·
    replace hF := hF.know (d := 49) (v' := .bool false) (by kernel_rfl) (congrArg Value.bool q6)
    refine Lo hF ?_; clear hF; intro a hF
    refine Lo hF ?_; clear hF; intro a hF
    refine Lo hF ?_; clear hF; intro a hF
    refine Lo hF ?_; clear hF; intro a hF
    refine Lo hF ?_; clear hF; intro a hF
    refine Vp hF (.bool false) ?_; clear hF; intro a hF
    refine Vp hF (.bool false) ?_; clear hF; intro a hF
    refine L_nil ?_
    refine hK16 _ _ ?_
    refine wp_ret ?_
    refine ret1 hF (v := .bool false) rfl (resT (by kernel_rfl)) (by refine ⟨?_, hO.nil⟩; first | rfl | (rw [any_all (by omega)]; simp; done) | (exfalso; exact any_ne (x := x) (l := l) (i := i) (by omega) (by assumption)) | (exfalso; simp_all; done)) .ret (.inl rfl)
   ·
    replace hF := hF.know (d := 49) (v' := .bool true) (by kernel_rfl) (congrArg Value.bool q6)
    refine Vp hF (.slice q2 ((mergeP l).length) qc1) ?_; clear hF; intro a hF
    refine Vr hF (ipV x) (x_load (p := .pointer (some ⟨b1, 0, none⟩)) rfl (by kernel_rfl) (run_loadA (k := 17) (by kernel_rfl) (by kernel_rfl) (hO.blk (List.mem_cons_of_mem _ (List.mem_cons_of_mem _ (List.mem_cons_of_mem _ List.mem_cons_self)))) (by kernel_rfl) (by kernel_rfl))) ?_; clear hF; intro a hF
    refine Lc hF ((cidr_Any (q2) qc1 (mergeP l) x W12 (hO.row (List.mem_cons_of_mem _ List.mem_cons_self)) (by omega)).mono fun v W' h => (⟨by rw [h.1, merge_any], h.2⟩ : v = .bool (l.any fun c => contCd c x) ∧ Own W12 noX [] W')) ?_
    clear hF; rintro _ W13 a ⟨rfl, hk⟩ hF
    replace hO := hO.call0 hk; clear hk
    refine Vp hF (.bool (anyTo x l i)) ?_; clear hF; intro a hF
    refine Vp hF (.bool ((l.any fun c => contCd c x) == (anyTo x l i))) ?_; clear hF; intro a hF
    refine Vp hF (.bool ((l.any fun c => contCd c x) == (anyTo x l i))) ?_; clear hF; intro a hF
    refine Vp hF (.bool ((l.any fun c => contCd c x) == (anyTo x l i))) ?_; clear hF; intro a hF
    refine L_nil ?_
    refine hK16 _ _ ?_
    refine wp_ret ?_
    refine ret1 hF (v := .bool ((l.any fun c => contCd c x) == (anyTo x l i))) rfl (resT (by kernel_rfl)) (by refine ⟨?_, hO.nil⟩; first | rfl | (rw [any_all (by omega)]; simp; done) | (exfalso; exact any_ne (x := x) (l := l) (i := i) (by omega) (by assumption)) | (exfalso; simp_all; done)) .ret (.inl rfl)

end Go.Proofs.YthellfigmpjhlaaGreatDoor
