/- The reference's Merge of cidrs, walked. -/
import Derived.Test.YthellfigmpjhlaaGreatDoorMrgA
import Derived.Test.YthellfigmpjhlaaGreatDoorMerge
namespace Go.Proofs.YthellfigmpjhlaaGreatDoor
open Go Go.RowKit
set_option linter.unusedVariables false
set_option linter.unusedSimpArgs false
def KillCd (l : List Pt) (i j : Nat) : Prop := j ≠ i ∧ covCd (nth l j) (nth l i) = true ∧ (nth l j ≠ nth l i ∨ j < i)
noncomputable def stayB (l : List Pt) (i j : Nat) : Bool := @decide (rightCd (nth l i) = true ∧ ∀ y, y < j → ¬ KillCd l i y) (Classical.propDecidable _)
theorem stayB_iff {l : List Pt} {i j : Nat} : stayB l i j = true ↔ rightCd (nth l i) = true ∧ ∀ y, y < j → ¬ KillCd l i y := by unfold stayB; exact @decide_eq_true_iff _ (Classical.propDecidable _)
theorem stay_0 (l : List Pt) (i : Nat) : rightCd (nth l i) = stayB l i 0 := by
  rw [Bool.eq_iff_iff, stayB_iff]
  exact ⟨fun h => ⟨h, fun y hy => absurd hy (Nat.not_lt_zero _)⟩, fun h => h.1⟩
theorem stay_keep {l : List Pt} {i j : Nat} (h : ¬ KillCd l i j) : stayB l i j = stayB l i (j + 1) := by
  rw [Bool.eq_iff_iff, stayB_iff, stayB_iff]
  refine ⟨fun ⟨h1, h2⟩ => ⟨h1, fun y hy => ?_⟩, fun ⟨h1, h2⟩ => ⟨h1, fun y hy => h2 y (by omega)⟩⟩
  rcases Nat.lt_or_ge y j with h' | h'
  · exact h2 y h'
  · obtain rfl : y = j := by omega
    exact h
theorem stay_kill {l : List Pt} {i j : Nat} (h : KillCd l i j) : false = stayB l i (j + 1) := by
  rw [Bool.eq_iff_iff, stayB_iff]
  exact ⟨fun e => (by cases e), fun e => absurd h (e.2 j (by omega))⟩
theorem stay_end {l : List Pt} {i j : Nat} (hj : ¬ j < l.length) (hle : j ≤ l.length) : stayB l i j = true ↔ StayCd l i := by
  obtain rfl : j = l.length := by omega
  rw [stayB_iff]
  refine and_congr Iff.rfl ⟨fun h y hy hne hk => h y hy ⟨hne, hk.1, hk.2⟩, fun h y hy hk => h y hy hk.1 ⟨hk.2.1, hk.2.2⟩⟩

set_option maxRecDepth 20000 in
theorem ref03_Merge (p : Option Addr) (cap : Nat) (l : List Pt) (W : World) (hl : SlAt W p (l.flatMap ptL)) (hn : l.length ≤ 1000) : Ret Tryz.prog 77 #[.slice p l.length cap] W fun v W' => ∃ q qc, v = .slice q (mergeP l).length qc ∧ Own W noX [rowL ptL 18 68 q qc (mergeP l)] W' := by
 refine enter Tryz.func77 rfl (n := 78) rfl (by kernel_rfl) (E0 := [(0, .slice p l.length cap)]) (by kernel_rfl) ?_
 intro a hF; have hO := Own.start W noX
 refine wp_seq_k fun K1 hK1 => ?_
 refine wp_region_lit ?_
 refine Vp hF (.slice none 0 0) ?_; clear hF; intro a hF
 refine L_nil ?_
 refine hK1 _ _ ?_
 refine wp_seq_k fun K2 hK2 => ?_
 refine wp_region_lit ?_
 refine L_new hF hO (by kernel_rfl) (by kernel_rfl) (vf := fun b => .slice (some ⟨b, 0, none⟩) 0 0) (ob := .cells #[] 68) (by kernel_rfl) (by kernel_rfl) ?_
 clear hF hO; intro b1 W1 a hO hF
 refine Vp hF (.slice (some ⟨b1, 0, none⟩) 0 0) ?_; clear hF; intro a hF
 refine L_nil ?_
 refine hK2 _ _ ?_
 refine wp_seq_k fun K3 hK3 => ?_
 refine wp_seq_k fun K4 hK4 => ?_
 refine wp_region_lit ?_
 refine Vp hF (.slice p l.length cap) ?_; clear hF; intro a hF
 refine Vp hF (.int .i64 ((l.length : Int))) ?_; clear hF; intro a hF
 refine Vp hF (.int .i64 0) ?_; clear hF; intro a hF
 refine L_nil ?_
 refine hK4 _ _ ?_
 refine wp_block ?_
 replace hO := hO.asRow (k := 18) (cap := 0) ptL ([] : List Pt) (.head _) (by decide) (by kernel_rfl) (by decide) (by kernel_rfl)
 refine loopX (τ := Nat × Option Addr × Nat × List Pt) (fun (xτ : Nat × Option Addr × Nat × List Pt) a Wx => (fun (i : Nat) (q : Option Addr) (qc : Nat) (r : List Pt) => (i ≤ l.length ∧ RfI l i r ∧ r.length ≤ i) ∧ Fr 78 a [(0, .slice p l.length cap), (2, .slice none 0 0), (3, .slice q r.length qc), (11, .slice p l.length cap), (12, .int .i64 ((l.length : Int))), (13, .int .i64 ((i : Int)))] ∧ Own W noX [rowL ptL 18 68 q qc r] Wx) (xτ.1) (xτ.2.1) (xτ.2.2.1) (xτ.2.2.2)) (fun (xτ : Nat × Option Addr × Nat × List Pt) => (fun (i : Nat) (q : Option Addr) (qc : Nat) (r : List Pt) => l.length - i) (xτ.1) (xτ.2.1) (xτ.2.2.1) (xτ.2.2.2)) ((0, some ⟨b1, 0, none⟩, 0, [])) ⟨⟨Nat.zero_le _, rf_0 l, Nat.le_refl _⟩, ?_, ?_⟩ ?_
 · exact hF.restrict ⟨(by kernel_rfl), (by kernel_rfl), (congrArg some (by first | rfl | exact congrArg (Value.int _) (by omega) | simp)), (by kernel_rfl), (by kernel_rfl), (congrArg some (by first | rfl | exact congrArg (Value.int _) (by omega) | simp)), trivial⟩
 · exact hO.sub (.cons_cons _ (List.nil_sublist _))
 clear hF hO; rintro ⟨i, q, qc, r⟩ a Wl1 ⟨hI, hF, hO⟩ KhK_1 hK_1
 try dsimp only at hI
 refine wp_seq_k fun K5 hK5 => ?_
 refine wp_region_lit ?_
 refine Vp hF (.bool (decide ((i : Int) < (l.length : Int)))) ?_; clear hF; intro a hF
 refine L_nil ?_
 refine hK5 _ _ ?_
 refine wp_seq_k fun K6 hK6 => ?_
 by_cases q1 : (i : Int) < (l.length : Int)
 ·
  replace hF := hF.know (d := 14) (v' := .bool true) (by kernel_rfl) (congrArg Value.bool (decide_eq_true q1))
  refine cond_t hF (by kernel_rfl) (by kernel_rfl) ?_
  refine wp_skip ?_
  refine hK6 _ _ ?_
  refine wp_seq_k fun K7 hK7 => ?_
  refine wp_block ?_
  refine wp_seq_k fun K8 hK8 => ?_
  refine wp_region_lit ?_
  refine Vp hF (.int .i64 ((i : Int))) ?_; clear hF; intro a hF
  refine Vr hF (.pointer (some ⟨(ab p), ao p + i * 18, none⟩)) (x_idxAddrS (p := p) (len := l.length) (cap := cap) (elem := 68) (kd := .i64) (k := 18) (i := (i : Int)) rfl (by kernel_rfl) (by kernel_rfl) (by kernel_rfl) (by kernel_rfl) (by omega) (by omega) (SlAt.ne (k := 18) (hl.own hO) (fun _ => rfl) (by decide) (by (first | omega | (simp only [List.length_set, List.length_take, List.length_drop, List.length_append, List.length_cons, List.length_nil]; done) | (simp only [List.length_set, List.length_take, List.length_drop, List.length_append, List.length_cons, List.length_nil]; omega) | (simp only [List.length_set, List.length_take, List.length_drop, List.length_append, List.length_cons, List.length_nil] at *; omega)) : i < l.length))) ?_; clear hF; intro a hF
  refine Vr hF (ptV (nth l i)) (x_load (p := .pointer (some ⟨(ab p), ao p + i * 18, none⟩)) rfl (by kernel_rfl) (run_loadEl (k := 18) (by kernel_rfl) (by kernel_rfl) (hl.own hO) (fun _ => rfl) (by (first | omega | (simp only [List.length_set, List.length_take, List.length_drop, List.length_append, List.length_cons, List.length_nil]; done) | (simp only [List.length_set, List.length_take, List.length_drop, List.length_append, List.length_cons, List.length_nil]; omega) | (simp only [List.length_set, List.length_take, List.length_drop, List.length_append, List.length_cons, List.length_nil] at *; omega))) rfl)) ?_; clear hF; intro a hF
  refine L_new hF hO (by kernel_rfl) (by kernel_rfl) (vf := fun b => .pointer (some ⟨b, 0, none⟩)) (ob := .cells #[.bool false, .int .u8 0, .int .u8 0, .int .u8 0, .int .u8 0, .int .u8 0, .int .u8 0, .int .u8 0, .int .u8 0, .int .u8 0, .int .u8 0, .int .u8 0, .int .u8 0, .int .u8 0, .int .u8 0, .int .u8 0, .int .u8 0, .int .i64 0] 68) (by kernel_rfl) (by kernel_rfl) ?_
  clear hF hO; intro b2 W2 a hO hF
  refine Vp hF (.int .i64 ((i : Int))) ?_; clear hF; intro a hF
  obtain ⟨W3, hst, hO1⟩ := run_storeAt (P := Tryz.prog) (k := 18) (T := 68) (off := 0) (v := ptV (nth l i)) (cs := #[.bool false, .int .u8 0, .int .u8 0, .int .u8 0, .int .u8 0, .int .u8 0, .int .u8 0, .int .u8 0, .int .u8 0, .int .u8 0, .int .u8 0, .int .u8 0, .int .u8 0, .int .u8 0, .int .u8 0, .int .u8 0, .int .u8 0, .int .i64 0]) (cs' := #[.bool (((nth l i).ip).six), .int .u8 ((((nth l i).ip).b0.toNat : Int)), .int .u8 ((((nth l i).ip).b1.toNat : Int)), .int .u8 ((((nth l i).ip).b2.toNat : Int)), .int .u8 ((((nth l i).ip).b3.toNat : Int)), .int .u8 ((((nth l i).ip).b4.toNat : Int)), .int .u8 ((((nth l i).ip).b5.toNat : Int)), .int .u8 ((((nth l i).ip).b6.toNat : Int)), .int .u8 ((((nth l i).ip).b7.toNat : Int)), .int .u8 ((((nth l i).ip).b8.toNat : Int)), .int .u8 ((((nth l i).ip).b9.toNat : Int)), .int .u8 ((((nth l i).ip).b10.toNat : Int)), .int .u8 ((((nth l i).ip).b11.toNat : Int)), .int .u8 ((((nth l i).ip).b12.toNat : Int)), .int .u8 ((((nth l i).ip).b13.toNat : Int)), .int .u8 ((((nth l i).ip).b14.toNat : Int)), .int .u8 ((((nth l i).ip).b15.toNat : Int)), .int .i64 ((nth l i).port)]) hO (by kernel_rfl) (by kernel_rfl) (by kernel_rfl) (Nat.le_of_ble_eq_true (by kernel_rfl)) (by kernel_rfl) (.head _)
  refine L_skip hF (by kernel_rfl) (by kernel_rfl) (x_store (p := .pointer (some ⟨b2, 0, none⟩)) (v := ptV (nth l i)) rfl (by kernel_rfl) (by kernel_rfl) hst) (by kernel_rfl) ?_
  clear hst hF; intro a hF; replace hO := hO1; clear hO1
  refine L_nil ?_
  refine hK8 _ _ ?_
  refine wp_seq_k fun K9 hK9 => ?_
  refine wp_region_lit ?_
  refine Vr hF (.agg #[.bool (((nth l i).ip).six), .int .u8 ((((nth l i).ip).b0.toNat : Int)), .int .u8 ((((nth l i).ip).b1.toNat : Int)), .int .u8 ((((nth l i).ip).b2.toNat : Int)), .int .u8 ((((nth l i).ip).b3.toNat : Int)), .int .u8 ((((nth l i).ip).b4.toNat : Int)), .int .u8 ((((nth l i).ip).b5.toNat : Int)), .int .u8 ((((nth l i).ip).b6.toNat : Int)), .int .u8 ((((nth l i).ip).b7.toNat : Int)), .int .u8 ((((nth l i).ip).b8.toNat : Int)), .int .u8 ((((nth l i).ip).b9.toNat : Int)), .int .u8 ((((nth l i).ip).b10.toNat : Int)), .int .u8 ((((nth l i).ip).b11.toNat : Int)), .int .u8 ((((nth l i).ip).b12.toNat : Int)), .int .u8 ((((nth l i).ip).b13.toNat : Int)), .int .u8 ((((nth l i).ip).b14.toNat : Int)), .int .u8 ((((nth l i).ip).b15.toNat : Int)), .int .i64 ((nth l i).port)]) (x_load (p := .pointer (some ⟨b2, 0, none⟩)) rfl (by kernel_rfl) (run_loadA (k := 18) (by kernel_rfl) (by kernel_rfl) (hO.blk List.mem_cons_self) (by kernel_rfl) (by kernel_rfl))) ?_; clear hF; intro a hF
  refine Lc hF (ref03_Right (nth l i) W3) ?_
  clear hF; rintro _ W4 a ⟨rfl, hk⟩ hF
  replace hO := hO.call0 hk; clear hk
  refine Vp hF (.bool (rightCd (nth l i))) ?_; clear hF; intro a hF
  refine L_nil ?_
  refine hK9 _ _ ?_
  refine wp_seq_k fun K10 hK10 => ?_
  refine wp_seq_k fun K11 hK11 => ?_
  refine wp_region_lit ?_
  refine Vp hF (.slice p l.length cap) ?_; clear hF; intro a hF
  refine Vp hF (.int .i64 ((l.length : Int))) ?_; clear hF; intro a hF
  refine Vp hF (.int .i64 0) ?_; clear hF; intro a hF
  refine L_nil ?_
  refine hK11 _ _ ?_
  refine wp_block ?_
  refine loopX (τ := Nat) (fun (j : Nat) a Wx => (j ≤ l.length) ∧ Fr 78 a [(0, .slice p l.length cap), (2, .slice none 0 0), (3, .slice q r.length qc), (4, .int .i64 ((i : Int))), (5, .pointer (some ⟨b2, 0, none⟩)), (6, .bool (stayB l i j)), (11, .slice p l.length cap), (12, .int .i64 ((l.length : Int))), (13, .int .i64 ((i : Int))), (14, .bool true), (15, .int .i64 ((i : Int))), (16, .pointer (some ⟨(ab p), ao p + i * 18, none⟩)), (17, ptV (nth l i)), (18, .agg #[.bool (((nth l i).ip).six), .int .u8 ((((nth l i).ip).b0.toNat : Int)), .int .u8 ((((nth l i).ip).b1.toNat : Int)), .int .u8 ((((nth l i).ip).b2.toNat : Int)), .int .u8 ((((nth l i).ip).b3.toNat : Int)), .int .u8 ((((nth l i).ip).b4.toNat : Int)), .int .u8 ((((nth l i).ip).b5.toNat : Int)), .int .u8 ((((nth l i).ip).b6.toNat : Int)), .int .u8 ((((nth l i).ip).b7.toNat : Int)), .int .u8 ((((nth l i).ip).b8.toNat : Int)), .int .u8 ((((nth l i).ip).b9.toNat : Int)), .int .u8 ((((nth l i).ip).b10.toNat : Int)), .int .u8 ((((nth l i).ip).b11.toNat : Int)), .int .u8 ((((nth l i).ip).b12.toNat : Int)), .int .u8 ((((nth l i).ip).b13.toNat : Int)), .int .u8 ((((nth l i).ip).b14.toNat : Int)), .int .u8 ((((nth l i).ip).b15.toNat : Int)), .int .i64 ((nth l i).port)]), (19, .bool (rightCd (nth l i))), (20, .slice p l.length cap), (21, .int .i64 ((l.length : Int))), (22, .int .i64 ((j : Int)))] ∧ Own W noX [.blk b2 (.cells #[.bool (((nth l i).ip).six), .int .u8 ((((nth l i).ip).b0.toNat : Int)), .int .u8 ((((nth l i).ip).b1.toNat : Int)), .int .u8 ((((nth l i).ip).b2.toNat : Int)), .int .u8 ((((nth l i).ip).b3.toNat : Int)), .int .u8 ((((nth l i).ip).b4.toNat : Int)), .int .u8 ((((nth l i).ip).b5.toNat : Int)), .int .u8 ((((nth l i).ip).b6.toNat : Int)), .int .u8 ((((nth l i).ip).b7.toNat : Int)), .int .u8 ((((nth l i).ip).b8.toNat : Int)), .int .u8 ((((nth l i).ip).b9.toNat : Int)), .int .u8 ((((nth l i).ip).b10.toNat : Int)), .int .u8 ((((nth l i).ip).b11.toNat : Int)), .int .u8 ((((nth l i).ip).b12.toNat : Int)), .int .u8 ((((nth l i).ip).b13.toNat : Int)), .int .u8 ((((nth l i).ip).b14.toNat : Int)), .int .u8 ((((nth l i).ip).b15.toNat : Int)), .int .i64 ((nth l i).port)] 68 (0, 0)), rowL ptL 18 68 q qc r] Wx) (fun (j : Nat) => l.length - j) (0) ⟨Nat.zero_le _, ?_, ?_⟩ ?_
  · exact hF.restrict ⟨(by kernel_rfl), (by kernel_rfl), (by kernel_rfl), (by kernel_rfl), (by kernel_rfl), (congrArg some (by exact congrArg Value.bool (stay_0 l i))), (by kernel_rfl), (by kernel_rfl), (by kernel_rfl), (by kernel_rfl), (by kernel_rfl), (by kernel_rfl), (by kernel_rfl), (by kernel_rfl), (by kernel_rfl), (by kernel_rfl), (by kernel_rfl), (congrArg some (by first | rfl | exact congrArg (Value.int _) (by omega) | simp)), trivial⟩
  · exact hO.sub (.cons_cons _ (.cons_cons _ (List.nil_sublist _)))
  clear hF hO; rintro j a Wl2 ⟨hJ, hF, hO⟩ KhK_2 hK_2
  try dsimp only at hJ
  refine wp_seq_k fun K12 hK12 => ?_
  refine wp_region_lit ?_
  refine Vp hF (.bool (decide ((j : Int) < (l.length : Int)))) ?_; clear hF; intro a hF
  refine L_nil ?_
  refine hK12 _ _ ?_
  refine wp_seq_k fun K13 hK13 => ?_
  by_cases q2 : (j : Int) < (l.length : Int)
  ·
   replace hF := hF.know (d := 23) (v' := .bool true) (by kernel_rfl) (congrArg Value.bool (decide_eq_true q2))
   refine cond_t hF (by kernel_rfl) (by kernel_rfl) ?_
   refine wp_skip ?_
   refine hK13 _ _ ?_
   refine wp_seq_k fun K14 hK14 => ?_
   refine wp_block ?_
   refine wp_seq_k fun K15 hK15 => ?_
   refine wp_region_lit ?_
   refine Vp hF (.int .i64 ((j : Int))) ?_; clear hF; intro a hF
   refine Vr hF (.pointer (some ⟨(ab p), ao p + j * 18, none⟩)) (x_idxAddrS (p := p) (len := l.length) (cap := cap) (elem := 68) (kd := .i64) (k := 18) (i := (j : Int)) rfl (by kernel_rfl) (by kernel_rfl) (by kernel_rfl) (by kernel_rfl) (by omega) (by omega) (SlAt.ne (k := 18) (hl.own hO) (fun _ => rfl) (by decide) (by (first | omega | (simp only [List.length_set, List.length_take, List.length_drop, List.length_append, List.length_cons, List.length_nil]; done) | (simp only [List.length_set, List.length_take, List.length_drop, List.length_append, List.length_cons, List.length_nil]; omega) | (simp only [List.length_set, List.length_take, List.length_drop, List.length_append, List.length_cons, List.length_nil] at *; omega)) : j < l.length))) ?_; clear hF; intro a hF
   refine Vr hF (ptV (nth l j)) (x_load (p := .pointer (some ⟨(ab p), ao p + j * 18, none⟩)) rfl (by kernel_rfl) (run_loadEl (k := 18) (by kernel_rfl) (by kernel_rfl) (hl.own hO) (fun _ => rfl) (by (first | omega | (simp only [List.length_set, List.length_take, List.length_drop, List.length_append, List.length_cons, List.length_nil]; done) | (simp only [List.length_set, List.length_take, List.length_drop, List.length_append, List.length_cons, List.length_nil]; omega) | (simp only [List.length_set, List.length_take, List.length_drop, List.length_append, List.length_cons, List.length_nil] at *; omega))) rfl)) ?_; clear hF; intro a hF
   refine L_new hF hO (by kernel_rfl) (by kernel_rfl) (vf := fun b => .pointer (some ⟨b, 0, none⟩)) (ob := .cells #[.bool false, .int .u8 0, .int .u8 0, .int .u8 0, .int .u8 0, .int .u8 0, .int .u8 0, .int .u8 0, .int .u8 0, .int .u8 0, .int .u8 0, .int .u8 0, .int .u8 0, .int .u8 0, .int .u8 0, .int .u8 0, .int .u8 0, .int .i64 0] 68) (by kernel_rfl) (by kernel_rfl) ?_
   clear hF hO; intro b3 W5 a hO hF
   refine Vp hF (.int .i64 ((j : Int))) ?_; clear hF; intro a hF
   obtain ⟨W6, hst, hO1⟩ := run_storeAt (P := Tryz.prog) (k := 18) (T := 68) (off := 0) (v := ptV (nth l j)) (cs := #[.bool false, .int .u8 0, .int .u8 0, .int .u8 0, .int .u8 0, .int .u8 0, .int .u8 0, .int .u8 0, .int .u8 0, .int .u8 0, .int .u8 0, .int .u8 0, .int .u8 0, .int .u8 0, .int .u8 0, .int .u8 0, .int .u8 0, .int .i64 0]) (cs' := #[.bool (((nth l j).ip).six), .int .u8 ((((nth l j).ip).b0.toNat : Int)), .int .u8 ((((nth l j).ip).b1.toNat : Int)), .int .u8 ((((nth l j).ip).b2.toNat : Int)), .int .u8 ((((nth l j).ip).b3.toNat : Int)), .int .u8 ((((nth l j).ip).b4.toNat : Int)), .int .u8 ((((nth l j).ip).b5.toNat : Int)), .int .u8 ((((nth l j).ip).b6.toNat : Int)), .int .u8 ((((nth l j).ip).b7.toNat : Int)), .int .u8 ((((nth l j).ip).b8.toNat : Int)), .int .u8 ((((nth l j).ip).b9.toNat : Int)), .int .u8 ((((nth l j).ip).b10.toNat : Int)), .int .u8 ((((nth l j).ip).b11.toNat : Int)), .int .u8 ((((nth l j).ip).b12.toNat : Int)), .int .u8 ((((nth l j).ip).b13.toNat : Int)), .int .u8 ((((nth l j).ip).b14.toNat : Int)), .int .u8 ((((nth l j).ip).b15.toNat : Int)), .int .i64 ((nth l j).port)]) hO (by kernel_rfl) (by kernel_rfl) (by kernel_rfl) (Nat.le_of_ble_eq_true (by kernel_rfl)) (by kernel_rfl) (.head _)
   refine L_skip hF (by kernel_rfl) (by kernel_rfl) (x_store (p := .pointer (some ⟨b3, 0, none⟩)) (v := ptV (nth l j)) rfl (by kernel_rfl) (by kernel_rfl) hst) (by kernel_rfl) ?_
   clear hst hF; intro a hF; replace hO := hO1; clear hO1
   refine L_nil ?_
   refine hK15 _ _ ?_
   refine wp_seq_k fun K16 hK16 => ?_
   refine wp_region_lit ?_
   refine Vp hF (.int .i64 ((j : Int))) ?_; clear hF; intro a hF
   refine Vp hF (.int .i64 ((i : Int))) ?_; clear hF; intro a hF
   refine Vp hF (.bool (!((j : Int) == (i : Int)))) ?_; clear hF; intro a hF
   refine Vp hF (.bool (!((j : Int) == (i : Int)))) ?_; clear hF; intro a hF
   by_cases q3 : (j : Int) = (i : Int)
   ·
    replace hF := hF.know (d := 30) (v' := .bool false) (by kernel_rfl) (congrArg Value.bool (neF (not_not_intro q3)))
    refine Lo hF ?_; clear hF; intro a hF
    refine Lo hF ?_; clear hF; intro a hF
    refine Lo hF ?_; clear hF; intro a hF
    refine Vp hF (.bool false) ?_; clear hF; intro a hF
    refine Vp hF (.bool false) ?_; clear hF; intro a hF
    refine Lo hF ?_; clear hF; intro a hF
    refine Lo hF ?_; clear hF; intro a hF
    refine Lo hF ?_; clear hF; intro a hF
    refine Lo hF ?_; clear hF; intro a hF
    refine Lo hF ?_; clear hF; intro a hF
    refine Lo hF ?_; clear hF; intro a hF
    refine Lo hF ?_; clear hF; intro a hF
    refine Lo hF ?_; clear hF; intro a hF
    refine Vp hF (.bool false) ?_; clear hF; intro a hF
    refine L_nil ?_
    refine hK16 _ _ ?_
    refine cond_f hF (by kernel_rfl) (by kernel_rfl) ?_
    refine wp_skip ?_
    refine block_normal ?_
    refine hK14 _ _ ?_
    refine wp_region_lit ?_
    refine Vr hF (.int .i64 ((j : Int) + 1)) (x_int (x := IntKind.i64.wrap ((j : Int) + 1)) (i64In (by omega) (by omega)) (by kernel_rfl)) ?_; clear hF; intro a hF
    refine Vp hF (.int .i64 ((j : Int) + 1)) ?_; clear hF; intro a hF
    refine L_nil ?_
    refine hK_2 (j + 1) _ _ (by first | omega | (dsimp only; omega)) ⟨by omega, ?_, ?_⟩
    · exact hF.restrict ⟨(by kernel_rfl), (by kernel_rfl), (by kernel_rfl), (by kernel_rfl), (by kernel_rfl), (congrArg some (by exact congrArg Value.bool (stay_keep (fun hk => hk.1 (by omega))))), (by kernel_rfl), (by kernel_rfl), (by kernel_rfl), (by kernel_rfl), (by kernel_rfl), (by kernel_rfl), (by kernel_rfl), (by kernel_rfl), (by kernel_rfl), (by kernel_rfl), (by kernel_rfl), (congrArg some (by first | rfl | exact congrArg (Value.int _) (by omega))), trivial⟩
    · exact hO.sub (.cons _ (.cons_cons _ (.cons_cons _ (List.nil_sublist _))))
   ·
    replace hF := hF.know (d := 30) (v' := .bool true) (by kernel_rfl) (congrArg Value.bool (neT q3))
    refine Vr hF (.agg #[.bool (((nth l j).ip).six), .int .u8 ((((nth l j).ip).b0.toNat : Int)), .int .u8 ((((nth l j).ip).b1.toNat : Int)), .int .u8 ((((nth l j).ip).b2.toNat : Int)), .int .u8 ((((nth l j).ip).b3.toNat : Int)), .int .u8 ((((nth l j).ip).b4.toNat : Int)), .int .u8 ((((nth l j).ip).b5.toNat : Int)), .int .u8 ((((nth l j).ip).b6.toNat : Int)), .int .u8 ((((nth l j).ip).b7.toNat : Int)), .int .u8 ((((nth l j).ip).b8.toNat : Int)), .int .u8 ((((nth l j).ip).b9.toNat : Int)), .int .u8 ((((nth l j).ip).b10.toNat : Int)), .int .u8 ((((nth l j).ip).b11.toNat : Int)), .int .u8 ((((nth l j).ip).b12.toNat : Int)), .int .u8 ((((nth l j).ip).b13.toNat : Int)), .int .u8 ((((nth l j).ip).b14.toNat : Int)), .int .u8 ((((nth l j).ip).b15.toNat : Int)), .int .i64 ((nth l j).port)]) (x_load (p := .pointer (some ⟨b3, 0, none⟩)) rfl (by kernel_rfl) (run_loadA (k := 18) (by kernel_rfl) (by kernel_rfl) (hO.blk List.mem_cons_self) (by kernel_rfl) (by kernel_rfl))) ?_; clear hF; intro a hF
    refine Vr hF (.agg #[.bool (((nth l i).ip).six), .int .u8 ((((nth l i).ip).b0.toNat : Int)), .int .u8 ((((nth l i).ip).b1.toNat : Int)), .int .u8 ((((nth l i).ip).b2.toNat : Int)), .int .u8 ((((nth l i).ip).b3.toNat : Int)), .int .u8 ((((nth l i).ip).b4.toNat : Int)), .int .u8 ((((nth l i).ip).b5.toNat : Int)), .int .u8 ((((nth l i).ip).b6.toNat : Int)), .int .u8 ((((nth l i).ip).b7.toNat : Int)), .int .u8 ((((nth l i).ip).b8.toNat : Int)), .int .u8 ((((nth l i).ip).b9.toNat : Int)), .int .u8 ((((nth l i).ip).b10.toNat : Int)), .int .u8 ((((nth l i).ip).b11.toNat : Int)), .int .u8 ((((nth l i).ip).b12.toNat : Int)), .int .u8 ((((nth l i).ip).b13.toNat : Int)), .int .u8 ((((nth l i).ip).b14.toNat : Int)), .int .u8 ((((nth l i).ip).b15.toNat : Int)), .int .i64 ((nth l i).port)]) (x_load (p := .pointer (some ⟨b2, 0, none⟩)) rfl (by kernel_rfl) (run_loadA (k := 18) (by kernel_rfl) (by kernel_rfl) (hO.blk (List.mem_cons_of_mem _ List.mem_cons_self)) (by kernel_rfl) (by kernel_rfl))) ?_; clear hF; intro a hF
    refine Lc hF (ref03_Covers (nth l j) (nth l i) W6) ?_
    clear hF; rintro _ W7 a ⟨rfl, hk⟩ hF
    replace hO := hO.call0 hk; clear hk
    refine Vp hF (.bool (covCd (nth l j) (nth l i))) ?_; clear hF; intro a hF
    refine Vp hF (.bool (covCd (nth l j) (nth l i))) ?_; clear hF; intro a hF
    cases q4 : (covCd (nth l j) (nth l i) : Bool)
    ·
     replace hF := hF.know (d := 35) (v' := .bool false) (by kernel_rfl) (congrArg Value.bool q4)
     refine Lo hF ?_; clear hF; intro a hF
     refine Lo hF ?_; clear hF; intro a hF
     refine Lo hF ?_; clear hF; intro a hF
     refine Lo hF ?_; clear hF; intro a hF
     refine Lo hF ?_; clear hF; intro a hF
     refine Lo hF ?_; clear hF; intro a hF
     refine Lo hF ?_; clear hF; intro a hF
     refine Lo hF ?_; clear hF; intro a hF
     refine Vp hF (.bool false) ?_; clear hF; intro a hF
     refine L_nil ?_
     refine hK16 _ _ ?_
     refine cond_f hF (by kernel_rfl) (by kernel_rfl) ?_
     refine wp_skip ?_
     refine block_normal ?_
     refine hK14 _ _ ?_
     refine wp_region_lit ?_
     refine Vr hF (.int .i64 ((j : Int) + 1)) (x_int (x := IntKind.i64.wrap ((j : Int) + 1)) (i64In (by omega) (by omega)) (by kernel_rfl)) ?_; clear hF; intro a hF
     refine Vp hF (.int .i64 ((j : Int) + 1)) ?_; clear hF; intro a hF
     refine L_nil ?_
     refine hK_2 (j + 1) _ _ (by first | omega | (dsimp only; omega)) ⟨by omega, ?_, ?_⟩
     · exact hF.restrict ⟨(by kernel_rfl), (by kernel_rfl), (by kernel_rfl), (by kernel_rfl), (by kernel_rfl), (congrArg some (by exact congrArg Value.bool (stay_keep (fun hk => by have h1 := hk.2.1; rw [q4] at h1; cases h1)))), (by kernel_rfl), (by kernel_rfl), (by kernel_rfl), (by kernel_rfl), (by kernel_rfl), (by kernel_rfl), (by kernel_rfl), (by kernel_rfl), (by kernel_rfl), (by kernel_rfl), (by kernel_rfl), (congrArg some (by first | rfl | exact congrArg (Value.int _) (by omega))), trivial⟩
     · exact hO.sub (.cons _ (.cons_cons _ (.cons_cons _ (List.nil_sublist _))))
    ·
     replace hF := hF.know (d := 35) (v' := .bool true) (by kernel_rfl) (congrArg Value.bool q4)
     refine Vr hF (.agg #[.bool (((nth l j).ip).six), .int .u8 ((((nth l j).ip).b0.toNat : Int)), .int .u8 ((((nth l j).ip).b1.toNat : Int)), .int .u8 ((((nth l j).ip).b2.toNat : Int)), .int .u8 ((((nth l j).ip).b3.toNat : Int)), .int .u8 ((((nth l j).ip).b4.toNat : Int)), .int .u8 ((((nth l j).ip).b5.toNat : Int)), .int .u8 ((((nth l j).ip).b6.toNat : Int)), .int .u8 ((((nth l j).ip).b7.toNat : Int)), .int .u8 ((((nth l j).ip).b8.toNat : Int)), .int .u8 ((((nth l j).ip).b9.toNat : Int)), .int .u8 ((((nth l j).ip).b10.toNat : Int)), .int .u8 ((((nth l j).ip).b11.toNat : Int)), .int .u8 ((((nth l j).ip).b12.toNat : Int)), .int .u8 ((((nth l j).ip).b13.toNat : Int)), .int .u8 ((((nth l j).ip).b14.toNat : Int)), .int .u8 ((((nth l j).ip).b15.toNat : Int)), .int .i64 ((nth l j).port)]) (x_load (p := .pointer (some ⟨b3, 0, none⟩)) rfl (by kernel_rfl) (run_loadA (k := 18) (by kernel_rfl) (by kernel_rfl) (hO.blk List.mem_cons_self) (by kernel_rfl) (by kernel_rfl))) ?_; clear hF; intro a hF
     refine Vr hF (.agg #[.bool (((nth l i).ip).six), .int .u8 ((((nth l i).ip).b0.toNat : Int)), .int .u8 ((((nth l i).ip).b1.toNat : Int)), .int .u8 ((((nth l i).ip).b2.toNat : Int)), .int .u8 ((((nth l i).ip).b3.toNat : Int)), .int .u8 ((((nth l i).ip).b4.toNat : Int)), .int .u8 ((((nth l i).ip).b5.toNat : Int)), .int .u8 ((((nth l i).ip).b6.toNat : Int)), .int .u8 ((((nth l i).ip).b7.toNat : Int)), .int .u8 ((((nth l i).ip).b8.toNat : Int)), .int .u8 ((((nth l i).ip).b9.toNat : Int)), .int .u8 ((((nth l i).ip).b10.toNat : Int)), .int .u8 ((((nth l i).ip).b11.toNat : Int)), .int .u8 ((((nth l i).ip).b12.toNat : Int)), .int .u8 ((((nth l i).ip).b13.toNat : Int)), .int .u8 ((((nth l i).ip).b14.toNat : Int)), .int .u8 ((((nth l i).ip).b15.toNat : Int)), .int .i64 ((nth l i).port)]) (x_load (p := .pointer (some ⟨b2, 0, none⟩)) rfl (by kernel_rfl) (run_loadA (k := 18) (by kernel_rfl) (by kernel_rfl) (hO.blk (List.mem_cons_of_mem _ List.mem_cons_self)) (by kernel_rfl) (by kernel_rfl))) ?_; clear hF; intro a hF
     refine Vr hF (.bool (!(decide ((nth l j) = (nth l i))))) (x_neCd (a := (nth l j)) (b := (nth l i)) rfl (by kernel_rfl) (by kernel_rfl)) ?_; clear hF; intro a hF
     refine Vp hF (.bool (!(decide ((nth l j) = (nth l i))))) ?_; clear hF; intro a hF
     by_cases q5 : (nth l j) = (nth l i)
     ·
      replace hF := hF.know (d := 39) (v' := .bool false) (by kernel_rfl) (congrArg Value.bool (notF (decide_eq_true (Decidable.of_not_not (not_not_intro q5)))))
      refine Vp hF (.int .i64 ((j : Int))) ?_; clear hF; intro a hF
      refine Vp hF (.int .i64 ((i : Int))) ?_; clear hF; intro a hF
      refine Vp hF (.bool (decide ((j : Int) < (i : Int)))) ?_; clear hF; intro a hF
      refine Vp hF (.bool (decide ((j : Int) < (i : Int)))) ?_; clear hF; intro a hF
      refine Vp hF (.bool (decide ((j : Int) < (i : Int)))) ?_; clear hF; intro a hF
      refine L_nil ?_
      refine hK16 _ _ ?_
      by_cases q6 : (j : Int) < (i : Int)
      ·
       replace hF := hF.know (d := 44) (v' := .bool true) (by kernel_rfl) (congrArg Value.bool (decide_eq_true q6))
       refine cond_t hF (by kernel_rfl) (by kernel_rfl) ?_
       refine wp_region_lit ?_
       refine Vp hF (.bool false) ?_; clear hF; intro a hF
       refine L_nil ?_
       refine block_normal ?_
       refine hK14 _ _ ?_
       refine wp_region_lit ?_
       refine Vr hF (.int .i64 ((j : Int) + 1)) (x_int (x := IntKind.i64.wrap ((j : Int) + 1)) (i64In (by omega) (by omega)) (by kernel_rfl)) ?_; clear hF; intro a hF
       refine Vp hF (.int .i64 ((j : Int) + 1)) ?_; clear hF; intro a hF
       refine L_nil ?_
       refine hK_2 (j + 1) _ _ (by first | omega | (dsimp only; omega)) ⟨by omega, ?_, ?_⟩
       · exact hF.restrict ⟨(by kernel_rfl), (by kernel_rfl), (by kernel_rfl), (by kernel_rfl), (by kernel_rfl), (congrArg some (by exact congrArg Value.bool (stay_kill ⟨by omega, q4, .inr (by omega)⟩))), (by kernel_rfl), (by kernel_rfl), (by kernel_rfl), (by kernel_rfl), (by kernel_rfl), (by kernel_rfl), (by kernel_rfl), (by kernel_rfl), (by kernel_rfl), (by kernel_rfl), (by kernel_rfl), (congrArg some (by first | rfl | exact congrArg (Value.int _) (by omega))), trivial⟩
       · exact hO.sub (.cons _ (.cons_cons _ (.cons_cons _ (List.nil_sublist _))))
      ·
       replace hF := hF.know (d := 44) (v' := .bool false) (by kernel_rfl) (congrArg Value.bool (decide_eq_false q6))
       refine cond_f hF (by kernel_rfl) (by kernel_rfl) ?_
       refine wp_skip ?_
       refine block_normal ?_
       refine hK14 _ _ ?_
       refine wp_region_lit ?_
       refine Vr hF (.int .i64 ((j : Int) + 1)) (x_int (x := IntKind.i64.wrap ((j : Int) + 1)) (i64In (by omega) (by omega)) (by kernel_rfl)) ?_; clear hF; intro a hF
       refine Vp hF (.int .i64 ((j : Int) + 1)) ?_; clear hF; intro a hF
       refine L_nil ?_
       refine hK_2 (j + 1) _ _ (by first | omega | (dsimp only; omega)) ⟨by omega, ?_, ?_⟩
       · exact hF.restrict ⟨(by kernel_rfl), (by kernel_rfl), (by kernel_rfl), (by kernel_rfl), (by kernel_rfl), (congrArg some (by exact congrArg Value.bool (stay_keep (fun hk => by rcases hk.2.2 with h1 | h1; exact h1 q5; omega)))), (by kernel_rfl), (by kernel_rfl), (by kernel_rfl), (by kernel_rfl), (by kernel_rfl), (by kernel_rfl), (by kernel_rfl), (by kernel_rfl), (by kernel_rfl), (by kernel_rfl), (by kernel_rfl), (congrArg some (by first | rfl | exact congrArg (Value.int _) (by omega))), trivial⟩
       · exact hO.sub (.cons _ (.cons_cons _ (.cons_cons _ (List.nil_sublist _))))
     ·
      replace hF := hF.know (d := 39) (v' := .bool true) (by kernel_rfl) (congrArg Value.bool (notT (decide_eq_false q5)))
      refine Lo hF ?_; clear hF; intro a hF
      refine Lo hF ?_; clear hF; intro a hF
      refine Lo hF ?_; clear hF; intro a hF
      refine Vp hF (.bool true) ?_; clear hF; intro a hF
      refine Vp hF (.bool true) ?_; clear hF; intro a hF
      refine L_nil ?_
      refine hK16 _ _ ?_
      refine cond_t hF (by kernel_rfl) (by kernel_rfl) ?_
      refine wp_region_lit ?_
      refine Vp hF (.bool false) ?_; clear hF; intro a hF
      refine L_nil ?_
      refine block_normal ?_
      refine hK14 _ _ ?_
      refine wp_region_lit ?_
      refine Vr hF (.int .i64 ((j : Int) + 1)) (x_int (x := IntKind.i64.wrap ((j : Int) + 1)) (i64In (by omega) (by omega)) (by kernel_rfl)) ?_; clear hF; intro a hF
      refine Vp hF (.int .i64 ((j : Int) + 1)) ?_; clear hF; intro a hF
      refine L_nil ?_
      refine hK_2 (j + 1) _ _ (by first | omega | (dsimp only; omega)) ⟨by omega, ?_, ?_⟩
      · exact hF.restrict ⟨(by kernel_rfl), (by kernel_rfl), (by kernel_rfl), (by kernel_rfl), (by kernel_rfl), (congrArg some (by exact congrArg Value.bool (stay_kill ⟨by omega, q4, .inl q5⟩))), (by kernel_rfl), (by kernel_rfl), (by kernel_rfl), (by kernel_rfl), (by kernel_rfl), (by kernel_rfl), (by kernel_rfl), (by kernel_rfl), (by kernel_rfl), (by kernel_rfl), (by kernel_rfl), (congrArg some (by first | rfl | exact congrArg (Value.int _) (by omega))), trivial⟩
      · exact hO.sub (.cons _ (.cons_cons _ (.cons_cons _ (List.nil_sublist _))))
  ·
   replace hF := hF.know (d := 23) (v' := .bool false) (by kernel_rfl) (congrArg Value.bool (decide_eq_false q2))
   refine cond_f hF (by kernel_rfl) (by kernel_rfl) ?_
   refine wp_exit ?_
   refine then_exit ?_
   refine then_exit ?_
   refine inBlock_hit ?_
   refine hK10 _ _ ?_
   refine wp_seq_k fun K17 hK17 => ?_
   refine wp_seq_k fun K18 hK18 => ?_
   refine wp_region_lit ?_
   refine Vp hF (.bool (stayB l i j)) ?_; clear hF; intro a hF
   refine Vp hF (.bool (!(stayB l i j))) ?_; clear hF; intro a hF
   refine L_nil ?_
   refine hK18 _ _ ?_
   cases q7 : (stayB l i j : Bool)
   ·
    replace hF := hF.know (d := 47) (v' := .bool true) (by kernel_rfl) (congrArg Value.bool (notT q7))
    refine cond_t hF (by kernel_rfl) (by kernel_rfl) ?_
    refine wp_exit ?_
    refine then_exit ?_
    refine inBlock_hit ?_
    refine hK7 _ _ ?_
    refine wp_region_lit ?_
    refine Vr hF (.int .i64 ((i : Int) + 1)) (x_int (x := IntKind.i64.wrap ((i : Int) + 1)) (i64In (by omega) (by omega)) (by kernel_rfl)) ?_; clear hF; intro a hF
    refine Vp hF (.int .i64 ((i : Int) + 1)) ?_; clear hF; intro a hF
    refine L_nil ?_
    refine hK_1 ((i + 1, q, qc, r)) _ _ (by first | omega | (dsimp only; omega)) ⟨⟨by omega, rf_no hI.2.1 (fun hs => by have := (stay_end (by omega) hJ).2 hs; simp_all), by dsimp only; omega⟩, ?_, ?_⟩
    · exact hF.restrict ⟨(by kernel_rfl), (by kernel_rfl), (congrArg some (by first | rfl | exact congrArg (Value.int _) (by omega))), (by kernel_rfl), (by kernel_rfl), (congrArg some (by first | rfl | exact congrArg (Value.int _) (by omega))), trivial⟩
    · exact hO.sub (.cons _ (.cons_cons _ (List.nil_sublist _)))
   ·
    replace hF := hF.know (d := 47) (v' := .bool false) (by kernel_rfl) (congrArg Value.bool (notF q7))
    refine cond_f hF (by kernel_rfl) (by kernel_rfl) ?_
    refine wp_skip ?_
    refine hK17 _ _ ?_
    refine wp_seq_k fun K19 hK19 => ?_
    refine wp_region_lit ?_
    refine Vp hF (.slice q r.length qc) ?_; clear hF; intro a hF
    refine Vp hF (.int .i64 ((r.length : Int))) ?_; clear hF; intro a hF
    refine Vp hF (.int .i64 ((r.length : Int))) ?_; clear hF; intro a hF
    refine L_nil ?_
    refine hK19 _ _ ?_
    refine wp_seq_k fun K20 hK20 => ?_
    refine wp_block ?_
    refine loopX (τ := Nat) (fun (at' : Nat) a Wx => (at' ≤ r.length ∧ ∀ y, at' ≤ y → y < r.length → cmpCd (nth l i) (nth r y) < 0) ∧ Fr 78 a [(0, .slice p l.length cap), (2, .slice none 0 0), (3, .slice q r.length qc), (4, .int .i64 ((i : Int))), (5, .pointer (some ⟨b2, 0, none⟩)), (6, .bool (stayB l i j)), (9, .int .i64 ((at' : Int))), (11, .slice p l.length cap), (12, .int .i64 ((l.length : Int))), (13, .int .i64 ((i : Int))), (14, .bool true), (15, .int .i64 ((i : Int))), (16, .pointer (some ⟨(ab p), ao p + i * 18, none⟩)), (17, ptV (nth l i)), (18, .agg #[.bool (((nth l i).ip).six), .int .u8 ((((nth l i).ip).b0.toNat : Int)), .int .u8 ((((nth l i).ip).b1.toNat : Int)), .int .u8 ((((nth l i).ip).b2.toNat : Int)), .int .u8 ((((nth l i).ip).b3.toNat : Int)), .int .u8 ((((nth l i).ip).b4.toNat : Int)), .int .u8 ((((nth l i).ip).b5.toNat : Int)), .int .u8 ((((nth l i).ip).b6.toNat : Int)), .int .u8 ((((nth l i).ip).b7.toNat : Int)), .int .u8 ((((nth l i).ip).b8.toNat : Int)), .int .u8 ((((nth l i).ip).b9.toNat : Int)), .int .u8 ((((nth l i).ip).b10.toNat : Int)), .int .u8 ((((nth l i).ip).b11.toNat : Int)), .int .u8 ((((nth l i).ip).b12.toNat : Int)), .int .u8 ((((nth l i).ip).b13.toNat : Int)), .int .u8 ((((nth l i).ip).b14.toNat : Int)), .int .u8 ((((nth l i).ip).b15.toNat : Int)), .int .i64 ((nth l i).port)]), (19, .bool (rightCd (nth l i))), (20, .slice p l.length cap), (21, .int .i64 ((l.length : Int))), (22, .int .i64 ((j : Int))), (23, .bool false), (46, .bool (stayB l i j)), (47, .bool false), (48, .slice q r.length qc), (49, .int .i64 ((r.length : Int)))] ∧ Own W noX [.blk b2 (.cells #[.bool (((nth l i).ip).six), .int .u8 ((((nth l i).ip).b0.toNat : Int)), .int .u8 ((((nth l i).ip).b1.toNat : Int)), .int .u8 ((((nth l i).ip).b2.toNat : Int)), .int .u8 ((((nth l i).ip).b3.toNat : Int)), .int .u8 ((((nth l i).ip).b4.toNat : Int)), .int .u8 ((((nth l i).ip).b5.toNat : Int)), .int .u8 ((((nth l i).ip).b6.toNat : Int)), .int .u8 ((((nth l i).ip).b7.toNat : Int)), .int .u8 ((((nth l i).ip).b8.toNat : Int)), .int .u8 ((((nth l i).ip).b9.toNat : Int)), .int .u8 ((((nth l i).ip).b10.toNat : Int)), .int .u8 ((((nth l i).ip).b11.toNat : Int)), .int .u8 ((((nth l i).ip).b12.toNat : Int)), .int .u8 ((((nth l i).ip).b13.toNat : Int)), .int .u8 ((((nth l i).ip).b14.toNat : Int)), .int .u8 ((((nth l i).ip).b15.toNat : Int)), .int .i64 ((nth l i).port)] 68 (0, 0)), rowL ptL 18 68 q qc r] Wx) (fun (at' : Nat) => at') (r.length) ⟨⟨Nat.le_refl _, fun j h1 h2 => by omega⟩, ?_, ?_⟩ ?_
    · exact hF.restrict ⟨(by kernel_rfl), (by kernel_rfl), (by kernel_rfl), (by kernel_rfl), (by kernel_rfl), (by kernel_rfl), (congrArg some (by first | rfl | exact congrArg (Value.int _) (by omega) | simp)), (by kernel_rfl), (by kernel_rfl), (by kernel_rfl), (by kernel_rfl), (by kernel_rfl), (by kernel_rfl), (by kernel_rfl), (by kernel_rfl), (by kernel_rfl), (by kernel_rfl), (by kernel_rfl), (by kernel_rfl), (by kernel_rfl), (by kernel_rfl), (by kernel_rfl), (by kernel_rfl), (by kernel_rfl), trivial⟩
    · exact hO.sub (.cons_cons _ (.cons_cons _ (List.nil_sublist _)))
    clear hF hO; rintro at' a Wl3 ⟨hI2, hF, hO⟩ KhK_3 hK_3
    try dsimp only at hI2
    refine wp_seq_k fun K21 hK21 => ?_
    refine wp_seq_k fun K22 hK22 => ?_
    refine A_start (fun Wx => Own W noX [.blk b2 (.cells #[.bool (((nth l i).ip).six), .int .u8 ((((nth l i).ip).b0.toNat : Int)), .int .u8 ((((nth l i).ip).b1.toNat : Int)), .int .u8 ((((nth l i).ip).b2.toNat : Int)), .int .u8 ((((nth l i).ip).b3.toNat : Int)), .int .u8 ((((nth l i).ip).b4.toNat : Int)), .int .u8 ((((nth l i).ip).b5.toNat : Int)), .int .u8 ((((nth l i).ip).b6.toNat : Int)), .int .u8 ((((nth l i).ip).b7.toNat : Int)), .int .u8 ((((nth l i).ip).b8.toNat : Int)), .int .u8 ((((nth l i).ip).b9.toNat : Int)), .int .u8 ((((nth l i).ip).b10.toNat : Int)), .int .u8 ((((nth l i).ip).b11.toNat : Int)), .int .u8 ((((nth l i).ip).b12.toNat : Int)), .int .u8 ((((nth l i).ip).b13.toNat : Int)), .int .u8 ((((nth l i).ip).b14.toNat : Int)), .int .u8 ((((nth l i).ip).b15.toNat : Int)), .int .i64 ((nth l i).port)] 68 (0, 0)), rowL ptL 18 68 q qc r] Wx) (by kernel_rfl) ?_
    replace hO := hO.drewN 1
    generalize hWd : ({ Wl3 with drawn := Wl3.drawn + 1 } : World) = Wl3_d at hO ⊢; clear hWd
    have hS := hO.sub (.cons_cons _ (.cons_cons _ (List.nil_sublist _)))
    refine Tk 0 rfl hF (.int .i64 ((at' : Int))) (fun Wx _ => by kernel_rfl) hS ?_; clear hF; intro a hF
    refine Tk 1 rfl hF (.bool (decide ((at' : Int) > 0))) (fun Wx _ => by kernel_rfl) hS ?_; clear hF; intro a hF
    refine Tk 2 rfl hF (.bool (decide ((at' : Int) > 0))) (fun Wx _ => by kernel_rfl) hS ?_; clear hF; intro a hF
    by_cases q8 : (at' : Int) > 0
    ·
     replace hF := hF.know (d := 52) (v' := .bool true) (by kernel_rfl) (congrArg Value.bool (decide_eq_true q8))
     refine Tk 3 rfl hF (.agg #[.bool (((nth l i).ip).six), .int .u8 ((((nth l i).ip).b0.toNat : Int)), .int .u8 ((((nth l i).ip).b1.toNat : Int)), .int .u8 ((((nth l i).ip).b2.toNat : Int)), .int .u8 ((((nth l i).ip).b3.toNat : Int)), .int .u8 ((((nth l i).ip).b4.toNat : Int)), .int .u8 ((((nth l i).ip).b5.toNat : Int)), .int .u8 ((((nth l i).ip).b6.toNat : Int)), .int .u8 ((((nth l i).ip).b7.toNat : Int)), .int .u8 ((((nth l i).ip).b8.toNat : Int)), .int .u8 ((((nth l i).ip).b9.toNat : Int)), .int .u8 ((((nth l i).ip).b10.toNat : Int)), .int .u8 ((((nth l i).ip).b11.toNat : Int)), .int .u8 ((((nth l i).ip).b12.toNat : Int)), .int .u8 ((((nth l i).ip).b13.toNat : Int)), .int .u8 ((((nth l i).ip).b14.toNat : Int)), .int .u8 ((((nth l i).ip).b15.toNat : Int)), .int .i64 ((nth l i).port)]) (fun Wx hO => x_load (p := .pointer (some ⟨b2, 0, none⟩)) rfl (by kernel_rfl) (run_loadA (k := 18) (by kernel_rfl) (by kernel_rfl) (hO.blk List.mem_cons_self) (by kernel_rfl) (by kernel_rfl))) hS ?_; clear hF; intro a hF
     refine Tk 4 rfl hF (.slice q r.length qc) (fun Wx _ => by kernel_rfl) hS ?_; clear hF; intro a hF
     refine Tk 5 rfl hF (.int .i64 ((at' : Int))) (fun Wx _ => by kernel_rfl) hS ?_; clear hF; intro a hF
     refine Tk 6 rfl hF (.int .i64 ((at' : Int) - 1)) (fun Wx _ => (x_int (x := IntKind.i64.wrap ((at' : Int) - 1)) (i64In (by omega) (by omega)) (by kernel_rfl))) hS ?_; clear hF; intro a hF
     refine Tk 7 rfl hF (.pointer (some ⟨(ab q), ao q + (((at' : Int) - 1).toNat) * 18, none⟩)) (fun Wx _ => (x_idxAddrS (p := q) (len := r.length) (cap := qc) (elem := 68) (kd := .i64) (k := 18) (i := (at' : Int) - 1) rfl (by kernel_rfl) (by kernel_rfl) (by kernel_rfl) (by kernel_rfl) (by omega) (by omega) (SlAt.ne (k := 18) (hO.row (List.mem_cons_of_mem _ List.mem_cons_self)) (fun _ => rfl) (by decide) (by (first | omega | (simp only [List.length_set, List.length_take, List.length_drop, List.length_append, List.length_cons, List.length_nil]; done) | (simp only [List.length_set, List.length_take, List.length_drop, List.length_append, List.length_cons, List.length_nil]; omega) | (simp only [List.length_set, List.length_take, List.length_drop, List.length_append, List.length_cons, List.length_nil] at *; omega)) : ((at' : Int) - 1).toNat < r.length)))) hS ?_; clear hF; intro a hF
     refine Tk 8 rfl hF (ptV (nth r (((at' : Int) - 1).toNat))) (fun Wx hO => x_load (p := .pointer (some ⟨(ab q), ao q + (((at' : Int) - 1).toNat) * 18, none⟩)) rfl (by kernel_rfl) (run_loadEl (k := 18) (by kernel_rfl) (by kernel_rfl) (hO.row (List.mem_cons_of_mem _ List.mem_cons_self)) (fun _ => rfl) (by (first | omega | (simp only [List.length_set, List.length_take, List.length_drop, List.length_append, List.length_cons, List.length_nil]; done) | (simp only [List.length_set, List.length_take, List.length_drop, List.length_append, List.length_cons, List.length_nil]; omega) | (simp only [List.length_set, List.length_take, List.length_drop, List.length_append, List.length_cons, List.length_nil] at *; omega))) rfl)) hS ?_; clear hF; intro a hF
     refine A_one (i := 9) (listed' := #[true, true, true, true, true, true, true, true, true, true, false, false]) (by kernel_rfl) rfl (by kernel_rfl) ?_
     refine OpK.lc hF (ref03_Compare (nth l i) (nth r (((at' : Int) - 1).toNat)) Wl3_d) ?_
     clear hF; rintro _ W8 a ⟨rfl, hk⟩ hF
     replace hO := hO.call0 hk; clear hk
     refine ⟨hO.sub (.cons_cons _ (.cons_cons _ (List.nil_sublist _))), ?_⟩
     have hS := hO.sub (.cons_cons _ (.cons_cons _ (List.nil_sublist _)))
     refine Tk 10 rfl hF (.bool (decide ((cmpCd (nth l i) (nth r (((at' : Int) - 1).toNat))) < 0))) (fun Wx _ => by kernel_rfl) hS ?_; clear hF; intro a hF
     refine Tk 11 rfl hF (.bool (decide ((cmpCd (nth l i) (nth r (((at' : Int) - 1).toNat))) < 0))) (fun Wx _ => by kernel_rfl) hS ?_; clear hF; intro a hF
     refine A_done (by kernel_rfl) ?_
     refine hK22 _ _ ?_
     by_cases q9 : (cmpCd (nth l i) (nth r (((at' : Int) - 1).toNat))) < 0
     ·
      replace hF := hF.know (d := 61) (v' := .bool true) (by kernel_rfl) (congrArg Value.bool (decide_eq_true q9))
      refine cond_t hF (by kernel_rfl) (by kernel_rfl) ?_
      refine wp_skip ?_
      refine hK21 _ _ ?_
      refine wp_block ?_
      refine wp_region_lit ?_
      refine Vp hF (.int .i64 ((at' : Int))) ?_; clear hF; intro a hF
      refine Vr hF (.int .i64 ((at' : Int) - 1)) (x_int (x := IntKind.i64.wrap ((at' : Int) - 1)) (i64In (by omega) (by omega)) (by kernel_rfl)) ?_; clear hF; intro a hF
      refine Vp hF (.int .i64 ((at' : Int) - 1)) ?_; clear hF; intro a hF
      refine L_nil ?_
      refine block_normal ?_
      refine hK_3 (at' - 1) _ _ (by first | omega | (dsimp only; omega)) ⟨⟨by omega, atRound (by omega) hI2.2 (by assumption)⟩, ?_, ?_⟩
      · exact hF.restrict ⟨(by kernel_rfl), (by kernel_rfl), (by kernel_rfl), (by kernel_rfl), (by kernel_rfl), (by kernel_rfl), (congrArg some (by first | rfl | exact congrArg (Value.int _) (by omega))), (by kernel_rfl), (by kernel_rfl), (by kernel_rfl), (by kernel_rfl), (by kernel_rfl), (by kernel_rfl), (by kernel_rfl), (by kernel_rfl), (by kernel_rfl), (by kernel_rfl), (by kernel_rfl), (by kernel_rfl), (by kernel_rfl), (by kernel_rfl), (by kernel_rfl), (by kernel_rfl), (by kernel_rfl), trivial⟩
      · exact hO.sub (.cons_cons _ (.cons_cons _ (List.nil_sublist _)))
     ·
      replace hF := hF.know (d := 61) (v' := .bool false) (by kernel_rfl) (congrArg Value.bool (decide_eq_false q9))
      refine cond_f hF (by kernel_rfl) (by kernel_rfl) ?_
      refine wp_exit ?_
      refine then_exit ?_
      refine then_exit ?_
      refine inBlock_hit ?_
      refine hK20 _ _ ?_
      refine A_start (fun Wx => Own W noX [.blk b2 (.cells #[.bool (((nth l i).ip).six), .int .u8 ((((nth l i).ip).b0.toNat : Int)), .int .u8 ((((nth l i).ip).b1.toNat : Int)), .int .u8 ((((nth l i).ip).b2.toNat : Int)), .int .u8 ((((nth l i).ip).b3.toNat : Int)), .int .u8 ((((nth l i).ip).b4.toNat : Int)), .int .u8 ((((nth l i).ip).b5.toNat : Int)), .int .u8 ((((nth l i).ip).b6.toNat : Int)), .int .u8 ((((nth l i).ip).b7.toNat : Int)), .int .u8 ((((nth l i).ip).b8.toNat : Int)), .int .u8 ((((nth l i).ip).b9.toNat : Int)), .int .u8 ((((nth l i).ip).b10.toNat : Int)), .int .u8 ((((nth l i).ip).b11.toNat : Int)), .int .u8 ((((nth l i).ip).b12.toNat : Int)), .int .u8 ((((nth l i).ip).b13.toNat : Int)), .int .u8 ((((nth l i).ip).b14.toNat : Int)), .int .u8 ((((nth l i).ip).b15.toNat : Int)), .int .i64 ((nth l i).port)] 68 (0, 0)), rowL ptL 18 68 q qc r] Wx) (by kernel_rfl) ?_
      replace hO := hO.drewN 1
      generalize hWd : ({ W8 with drawn := W8.drawn + 1 } : World) = W8_d at hO ⊢; clear hWd
      have hS := hO.sub (.cons_cons _ (.cons_cons _ (List.nil_sublist _)))
      refine Tk 1 rfl hF (.slice q r.length qc) (fun Wx _ => by kernel_rfl) hS ?_; clear hF; intro a hF
      refine Tk 2 rfl hF (.int .i64 ((at' : Int))) (fun Wx _ => by kernel_rfl) hS ?_; clear hF; intro a hF
      refine Tk 3 rfl hF (.slice q ((r.take at').length) qc) (fun Wx _ => (x_slSlH (p := q) (len := r.length) (cap := qc) (elem := 68) (k := 18) (hi := (at' : Int)) rfl (by kernel_rfl) (by kernel_rfl) (by kernel_rfl) ⟨.i64, (by kernel_rfl)⟩ (by omega) (by have := (hO.rowCap (List.mem_cons_of_mem _ List.mem_cons_self)); omega) (by (first | omega | (simp only [List.length_set, List.length_take, List.length_drop, List.length_append, List.length_cons, List.length_nil]; done) | (simp only [List.length_set, List.length_take, List.length_drop, List.length_append, List.length_cons, List.length_nil]; omega) | (simp only [List.length_set, List.length_take, List.length_drop, List.length_append, List.length_cons, List.length_nil] at *; omega))))) hS ?_; clear hF; intro a hF
      refine Tk 5 rfl hF (.agg #[.bool (((nth l i).ip).six), .int .u8 ((((nth l i).ip).b0.toNat : Int)), .int .u8 ((((nth l i).ip).b1.toNat : Int)), .int .u8 ((((nth l i).ip).b2.toNat : Int)), .int .u8 ((((nth l i).ip).b3.toNat : Int)), .int .u8 ((((nth l i).ip).b4.toNat : Int)), .int .u8 ((((nth l i).ip).b5.toNat : Int)), .int .u8 ((((nth l i).ip).b6.toNat : Int)), .int .u8 ((((nth l i).ip).b7.toNat : Int)), .int .u8 ((((nth l i).ip).b8.toNat : Int)), .int .u8 ((((nth l i).ip).b9.toNat : Int)), .int .u8 ((((nth l i).ip).b10.toNat : Int)), .int .u8 ((((nth l i).ip).b11.toNat : Int)), .int .u8 ((((nth l i).ip).b12.toNat : Int)), .int .u8 ((((nth l i).ip).b13.toNat : Int)), .int .u8 ((((nth l i).ip).b14.toNat : Int)), .int .u8 ((((nth l i).ip).b15.toNat : Int)), .int .i64 ((nth l i).port)]) (fun Wx hO => x_load (p := .pointer (some ⟨b2, 0, none⟩)) rfl (by kernel_rfl) (run_loadA (k := 18) (by kernel_rfl) (by kernel_rfl) (hO.blk List.mem_cons_self) (by kernel_rfl) (by kernel_rfl))) hS ?_; clear hF; intro a hF
      refine Tk 8 rfl hF (.slice q r.length qc) (fun Wx _ => by kernel_rfl) hS ?_; clear hF; intro a hF
      refine Tk 9 rfl hF (.int .i64 ((at' : Int))) (fun Wx _ => by kernel_rfl) hS ?_; clear hF; intro a hF
      refine Tk 10 rfl hF (.slice (subP q qc at' 18) ((r.drop at').length) (qc - at')) (fun Wx _ => (x_slSlL (p := q) (len := r.length) (cap := qc) (elem := 68) (k := 18) (lo := (at' : Int)) (hi := (r.length : Int)) rfl (by kernel_rfl) (by kernel_rfl) (by kernel_rfl) ⟨.i64, (by kernel_rfl)⟩ rfl (by omega) (by omega) (by have := (hO.rowCap (List.mem_cons_of_mem _ List.mem_cons_self)); omega) (by simp only [List.length_drop, List.length_take]; omega) rfl)) hS ?_; clear hF; intro a hF
      refine A_cut (fun a Wx => ∃ (b4 : Nat) (b5 : Nat) (p1 : Option Addr) (cap1 : Nat), Fr 78 a [(0, .slice p l.length cap), (2, .slice none 0 0), (3, .slice q r.length qc), (4, .int .i64 ((i : Int))), (5, .pointer (some ⟨b2, 0, none⟩)), (6, .bool (stayB l i j)), (9, .int .i64 ((at' : Int))), (11, .slice p l.length cap), (12, .int .i64 ((l.length : Int))), (13, .int .i64 ((i : Int))), (14, .bool true), (15, .int .i64 ((i : Int))), (16, .pointer (some ⟨(ab p), ao p + i * 18, none⟩)), (17, ptV (nth l i)), (18, .agg #[.bool (((nth l i).ip).six), .int .u8 ((((nth l i).ip).b0.toNat : Int)), .int .u8 ((((nth l i).ip).b1.toNat : Int)), .int .u8 ((((nth l i).ip).b2.toNat : Int)), .int .u8 ((((nth l i).ip).b3.toNat : Int)), .int .u8 ((((nth l i).ip).b4.toNat : Int)), .int .u8 ((((nth l i).ip).b5.toNat : Int)), .int .u8 ((((nth l i).ip).b6.toNat : Int)), .int .u8 ((((nth l i).ip).b7.toNat : Int)), .int .u8 ((((nth l i).ip).b8.toNat : Int)), .int .u8 ((((nth l i).ip).b9.toNat : Int)), .int .u8 ((((nth l i).ip).b10.toNat : Int)), .int .u8 ((((nth l i).ip).b11.toNat : Int)), .int .u8 ((((nth l i).ip).b12.toNat : Int)), .int .u8 ((((nth l i).ip).b13.toNat : Int)), .int .u8 ((((nth l i).ip).b14.toNat : Int)), .int .u8 ((((nth l i).ip).b15.toNat : Int)), .int .i64 ((nth l i).port)]), (19, .bool (rightCd (nth l i))), (20, .slice p l.length cap), (21, .int .i64 ((l.length : Int))), (22, .int .i64 ((j : Int))), (23, .bool false), (46, .bool (stayB l i j)), (47, .bool false), (48, .slice q r.length qc), (49, .int .i64 ((r.length : Int))), (50, .int .i64 ((at' : Int))), (51, .bool (decide ((at' : Int) > 0))), (52, .bool true), (53, .agg #[.bool (((nth l i).ip).six), .int .u8 ((((nth l i).ip).b0.toNat : Int)), .int .u8 ((((nth l i).ip).b1.toNat : Int)), .int .u8 ((((nth l i).ip).b2.toNat : Int)), .int .u8 ((((nth l i).ip).b3.toNat : Int)), .int .u8 ((((nth l i).ip).b4.toNat : Int)), .int .u8 ((((nth l i).ip).b5.toNat : Int)), .int .u8 ((((nth l i).ip).b6.toNat : Int)), .int .u8 ((((nth l i).ip).b7.toNat : Int)), .int .u8 ((((nth l i).ip).b8.toNat : Int)), .int .u8 ((((nth l i).ip).b9.toNat : Int)), .int .u8 ((((nth l i).ip).b10.toNat : Int)), .int .u8 ((((nth l i).ip).b11.toNat : Int)), .int .u8 ((((nth l i).ip).b12.toNat : Int)), .int .u8 ((((nth l i).ip).b13.toNat : Int)), .int .u8 ((((nth l i).ip).b14.toNat : Int)), .int .u8 ((((nth l i).ip).b15.toNat : Int)), .int .i64 ((nth l i).port)]), (54, .slice q r.length qc), (55, .int .i64 ((at' : Int))), (56, .int .i64 ((at' : Int) - 1)), (57, .pointer (some ⟨(ab q), ao q + (((at' : Int) - 1).toNat) * 18, none⟩)), (58, ptV (nth r (((at' : Int) - 1).toNat))), (59, .int .i64 ((cmpCd (nth l i) (nth r (((at' : Int) - 1).toNat))))), (60, .bool (decide ((cmpCd (nth l i) (nth r (((at' : Int) - 1).toNat))) < 0))), (61, .bool false), (64, .slice (some ⟨b4, 0, none⟩) 0 0), (65, .slice q r.length qc), (66, .int .i64 ((at' : Int))), (67, .slice q ((r.take at').length) qc), (68, .slice p1 ((r.take at').length) cap1), (69, .agg #[.bool (((nth l i).ip).six), .int .u8 ((((nth l i).ip).b0.toNat : Int)), .int .u8 ((((nth l i).ip).b1.toNat : Int)), .int .u8 ((((nth l i).ip).b2.toNat : Int)), .int .u8 ((((nth l i).ip).b3.toNat : Int)), .int .u8 ((((nth l i).ip).b4.toNat : Int)), .int .u8 ((((nth l i).ip).b5.toNat : Int)), .int .u8 ((((nth l i).ip).b6.toNat : Int)), .int .u8 ((((nth l i).ip).b7.toNat : Int)), .int .u8 ((((nth l i).ip).b8.toNat : Int)), .int .u8 ((((nth l i).ip).b9.toNat : Int)), .int .u8 ((((nth l i).ip).b10.toNat : Int)), .int .u8 ((((nth l i).ip).b11.toNat : Int)), .int .u8 ((((nth l i).ip).b12.toNat : Int)), .int .u8 ((((nth l i).ip).b13.toNat : Int)), .int .u8 ((((nth l i).ip).b14.toNat : Int)), .int .u8 ((((nth l i).ip).b15.toNat : Int)), .int .i64 ((nth l i).port)]), (70, .slice (some ⟨b5, 0, none⟩) 1 1), (72, .slice q r.length qc), (73, .int .i64 ((at' : Int))), (74, .slice (subP q qc at' 18) ((r.drop at').length) (qc - at'))] ∧ Own W noX [.blk b5 (.cells #[.bool (((nth l i).ip).six), .int .u8 ((((nth l i).ip).b0.toNat : Int)), .int .u8 ((((nth l i).ip).b1.toNat : Int)), .int .u8 ((((nth l i).ip).b2.toNat : Int)), .int .u8 ((((nth l i).ip).b3.toNat : Int)), .int .u8 ((((nth l i).ip).b4.toNat : Int)), .int .u8 ((((nth l i).ip).b5.toNat : Int)), .int .u8 ((((nth l i).ip).b6.toNat : Int)), .int .u8 ((((nth l i).ip).b7.toNat : Int)), .int .u8 ((((nth l i).ip).b8.toNat : Int)), .int .u8 ((((nth l i).ip).b9.toNat : Int)), .int .u8 ((((nth l i).ip).b10.toNat : Int)), .int .u8 ((((nth l i).ip).b11.toNat : Int)), .int .u8 ((((nth l i).ip).b12.toNat : Int)), .int .u8 ((((nth l i).ip).b13.toNat : Int)), .int .u8 ((((nth l i).ip).b14.toNat : Int)), .int .u8 ((((nth l i).ip).b15.toNat : Int)), .int .i64 ((nth l i).port)] 68 (0, 0)), rowL ptL 18 68 p1 cap1 (r.take at'), .blk b2 (.cells #[.bool (((nth l i).ip).six), .int .u8 ((((nth l i).ip).b0.toNat : Int)), .int .u8 ((((nth l i).ip).b1.toNat : Int)), .int .u8 ((((nth l i).ip).b2.toNat : Int)), .int .u8 ((((nth l i).ip).b3.toNat : Int)), .int .u8 ((((nth l i).ip).b4.toNat : Int)), .int .u8 ((((nth l i).ip).b5.toNat : Int)), .int .u8 ((((nth l i).ip).b6.toNat : Int)), .int .u8 ((((nth l i).ip).b7.toNat : Int)), .int .u8 ((((nth l i).ip).b8.toNat : Int)), .int .u8 ((((nth l i).ip).b9.toNat : Int)), .int .u8 ((((nth l i).ip).b10.toNat : Int)), .int .u8 ((((nth l i).ip).b11.toNat : Int)), .int .u8 ((((nth l i).ip).b12.toNat : Int)), .int .u8 ((((nth l i).ip).b13.toNat : Int)), .int .u8 ((((nth l i).ip).b14.toNat : Int)), .int .u8 ((((nth l i).ip).b15.toNat : Int)), .int .i64 ((nth l i).port)] 68 (0, 0)), rowL ptL 18 68 q qc r] Wx) (fuel := 3) (listed := #[true, true, true, true, true, true, true, false, true, true, true, false, false]) ?_ ?_
      ·
       clear hF hO; rintro a W13 ⟨b4, b5, p1, cap1, hF, hO⟩
       refine A_one (i := 7) (listed' := #[true, true, true, true, true, true, true, true, true, true, true, false, false]) (by kernel_rfl) rfl (by kernel_rfl) ?_
       obtain ⟨p2, cap2, W14, hap, hO1, -⟩ := run_append_row (P := Tryz.prog) (ty := 92) (t := 92) (z := .agg #[.bool false, .int .u8 0, .int .u8 0, .int .u8 0, .int .u8 0, .int .u8 0, .int .u8 0, .int .u8 0, .int .u8 0, .int .u8 0, .int .u8 0, .int .u8 0, .int .u8 0, .int .u8 0, .int .u8 0, .int .u8 0, .int .u8 0, .int .i64 0]) (k := 18) (bytes := 32) (q := some ⟨b5, 0, none⟩) (ys := ([(nth l i)] : List Pt)) (cq := 1) hO (.tail (.head _)) (by kernel_rfl) (by kernel_rfl) (by kernel_rfl) (by decide) (fun _ => rfl) (fun _ => rfl) (SlAt.blk hO List.mem_cons_self (by kernel_rfl)) (by (try simp only [List.length_append, List.length_take, List.length_drop, List.length_cons, List.length_nil, maxLen]); omega) (by (try simp only [List.length_append, List.length_take, List.length_drop, List.length_cons, List.length_nil, maxLen]); omega)
       refine OpK.valW hF (by kernel_rfl) (by kernel_rfl) (x_app hap rfl (by kernel_rfl) (by kernel_rfl) rfl) (by kernel_rfl) ?_
       clear hap hF; intro a hF; replace hO := hO1; clear hO1
       refine ⟨hO.sub (.cons _ (.cons _ (.cons_cons _ (.cons_cons _ (List.nil_sublist _))))), ?_⟩
       refine A_one (i := 11) (listed' := #[true, true, true, true, true, true, true, true, true, true, true, true, false]) (by kernel_rfl) rfl (by kernel_rfl) ?_
       obtain ⟨p3, cap3, W15, hap, hO1, -⟩ := run_append_row (P := Tryz.prog) (ty := 92) (t := 92) (z := .agg #[.bool false, .int .u8 0, .int .u8 0, .int .u8 0, .int .u8 0, .int .u8 0, .int .u8 0, .int .u8 0, .int .u8 0, .int .u8 0, .int .u8 0, .int .u8 0, .int .u8 0, .int .u8 0, .int .u8 0, .int .u8 0, .int .u8 0, .int .i64 0]) (k := 18) (bytes := 32) (q := subP q qc at' 18) (ys := r.drop at') (cq := qc - at') hO (.head _) (by kernel_rfl) (by kernel_rfl) (by kernel_rfl) (by decide) (fun _ => rfl) (fun _ => rfl) (SlAt.dropL (k := 18) (hO.row (List.mem_cons_of_mem _ (List.mem_cons_of_mem _ (List.mem_cons_of_mem _ List.mem_cons_self)))) (fun _ => rfl) qc at' (by have := (hO.rowCap (List.mem_cons_of_mem _ (List.mem_cons_of_mem _ (List.mem_cons_of_mem _ List.mem_cons_self)))); (try simp only [List.length_take]); omega)) (by (try simp only [List.length_append, List.length_take, List.length_drop, List.length_cons, List.length_nil, maxLen]); omega) (by (try simp only [List.length_append, List.length_take, List.length_drop, List.length_cons, List.length_nil, maxLen]); omega)
       refine OpK.valW hF (by kernel_rfl) (by kernel_rfl) (x_app hap rfl (by kernel_rfl) (by kernel_rfl) rfl) (by kernel_rfl) ?_
       clear hap hF; intro a hF; replace hO := hO1; clear hO1
       refine ⟨hO.sub (.cons _ (.cons _ (.cons_cons _ (.cons_cons _ (List.nil_sublist _))))), ?_⟩
       have hS := hO.sub (.cons _ (.cons _ (.cons_cons _ (.cons_cons _ (List.nil_sublist _)))))
       refine Tk 12 rfl hF (.slice p3 ((((r.take at') ++ ([(nth l i)] : List Pt)) ++ (r.drop at')).length) cap3) (fun Wx _ => by kernel_rfl) hS ?_; clear hF; intro a hF
       refine A_done (by kernel_rfl) ?_
       refine block_normal ?_
       refine hK7 _ _ ?_
       refine wp_region_lit ?_
       refine Vr hF (.int .i64 ((i : Int) + 1)) (x_int (x := IntKind.i64.wrap ((i : Int) + 1)) (i64In (by omega) (by omega)) (by kernel_rfl)) ?_; clear hF; intro a hF
       refine Vp hF (.int .i64 ((i : Int) + 1)) ?_; clear hF; intro a hF
       refine L_nil ?_
       refine hK_1 ((i + 1, p3, cap3, ((r.take at') ++ ([(nth l i)] : List Pt)) ++ (r.drop at'))) _ _ (by first | omega | (dsimp only; omega)) ⟨(by have hps := posL_at hI2.1 hI2.2 (by first | exact .inl (by assumption) | exact .inr (by assumption)); exact ⟨by omega, rf_yes hI.2.1 ((stay_end (by omega) hJ).1 (by assumption)) (by omega) hps, by dsimp only; simp only [List.length_append, List.length_take, List.length_drop, List.length_cons, List.length_nil]; omega⟩), ?_, ?_⟩
       · exact hF.restrict ⟨(by kernel_rfl), (by kernel_rfl), (congrArg some (by first | rfl | exact congrArg (Value.int _) (by omega))), (by kernel_rfl), (by kernel_rfl), (congrArg some (by first | rfl | exact congrArg (Value.int _) (by omega))), trivial⟩
       · exact hO.sub (.cons_cons _ (List.nil_sublist _))
      ·
       intro hcut2
       refine A_many [0, 6] (by kernel_rfl) rfl ⟨?_, ?_, trivial⟩
       ·
        refine A_br (listed' := #[true, true, true, true, false, true, false, false, true, true, true, false, false]) rfl (by kernel_rfl) ?_
        refine OpK.new hF hO (by kernel_rfl) (by kernel_rfl) (vf := fun b => .slice (some ⟨b, 0, none⟩) 0 0) (ob := .cells #[] 68) (by kernel_rfl) (by kernel_rfl) ?_
        clear hF hO; intro b6 W16 a hO hF
        refine ⟨hO.sub (.cons _ (.cons_cons _ (.cons_cons _ (List.nil_sublist _)))), ?_⟩
        refine A_cut (fun a Wx => ∃ (b7 : Nat) (p4 : Option Addr) (cap4 : Nat), Fr 78 a [(0, .slice p l.length cap), (2, .slice none 0 0), (3, .slice q r.length qc), (4, .int .i64 ((i : Int))), (5, .pointer (some ⟨b2, 0, none⟩)), (6, .bool (stayB l i j)), (9, .int .i64 ((at' : Int))), (11, .slice p l.length cap), (12, .int .i64 ((l.length : Int))), (13, .int .i64 ((i : Int))), (14, .bool true), (15, .int .i64 ((i : Int))), (16, .pointer (some ⟨(ab p), ao p + i * 18, none⟩)), (17, ptV (nth l i)), (18, .agg #[.bool (((nth l i).ip).six), .int .u8 ((((nth l i).ip).b0.toNat : Int)), .int .u8 ((((nth l i).ip).b1.toNat : Int)), .int .u8 ((((nth l i).ip).b2.toNat : Int)), .int .u8 ((((nth l i).ip).b3.toNat : Int)), .int .u8 ((((nth l i).ip).b4.toNat : Int)), .int .u8 ((((nth l i).ip).b5.toNat : Int)), .int .u8 ((((nth l i).ip).b6.toNat : Int)), .int .u8 ((((nth l i).ip).b7.toNat : Int)), .int .u8 ((((nth l i).ip).b8.toNat : Int)), .int .u8 ((((nth l i).ip).b9.toNat : Int)), .int .u8 ((((nth l i).ip).b10.toNat : Int)), .int .u8 ((((nth l i).ip).b11.toNat : Int)), .int .u8 ((((nth l i).ip).b12.toNat : Int)), .int .u8 ((((nth l i).ip).b13.toNat : Int)), .int .u8 ((((nth l i).ip).b14.toNat : Int)), .int .u8 ((((nth l i).ip).b15.toNat : Int)), .int .i64 ((nth l i).port)]), (19, .bool (rightCd (nth l i))), (20, .slice p l.length cap), (21, .int .i64 ((l.length : Int))), (22, .int .i64 ((j : Int))), (23, .bool false), (46, .bool (stayB l i j)), (47, .bool false), (48, .slice q r.length qc), (49, .int .i64 ((r.length : Int))), (50, .int .i64 ((at' : Int))), (51, .bool (decide ((at' : Int) > 0))), (52, .bool true), (53, .agg #[.bool (((nth l i).ip).six), .int .u8 ((((nth l i).ip).b0.toNat : Int)), .int .u8 ((((nth l i).ip).b1.toNat : Int)), .int .u8 ((((nth l i).ip).b2.toNat : Int)), .int .u8 ((((nth l i).ip).b3.toNat : Int)), .int .u8 ((((nth l i).ip).b4.toNat : Int)), .int .u8 ((((nth l i).ip).b5.toNat : Int)), .int .u8 ((((nth l i).ip).b6.toNat : Int)), .int .u8 ((((nth l i).ip).b7.toNat : Int)), .int .u8 ((((nth l i).ip).b8.toNat : Int)), .int .u8 ((((nth l i).ip).b9.toNat : Int)), .int .u8 ((((nth l i).ip).b10.toNat : Int)), .int .u8 ((((nth l i).ip).b11.toNat : Int)), .int .u8 ((((nth l i).ip).b12.toNat : Int)), .int .u8 ((((nth l i).ip).b13.toNat : Int)), .int .u8 ((((nth l i).ip).b14.toNat : Int)), .int .u8 ((((nth l i).ip).b15.toNat : Int)), .int .i64 ((nth l i).port)]), (54, .slice q r.length qc), (55, .int .i64 ((at' : Int))), (56, .int .i64 ((at' : Int) - 1)), (57, .pointer (some ⟨(ab q), ao q + (((at' : Int) - 1).toNat) * 18, none⟩)), (58, ptV (nth r (((at' : Int) - 1).toNat))), (59, .int .i64 ((cmpCd (nth l i) (nth r (((at' : Int) - 1).toNat))))), (60, .bool (decide ((cmpCd (nth l i) (nth r (((at' : Int) - 1).toNat))) < 0))), (61, .bool false), (64, .slice (some ⟨b6, 0, none⟩) 0 0), (65, .slice q r.length qc), (66, .int .i64 ((at' : Int))), (67, .slice q ((r.take at').length) qc), (68, .slice p4 ((r.take at').length) cap4), (69, .agg #[.bool (((nth l i).ip).six), .int .u8 ((((nth l i).ip).b0.toNat : Int)), .int .u8 ((((nth l i).ip).b1.toNat : Int)), .int .u8 ((((nth l i).ip).b2.toNat : Int)), .int .u8 ((((nth l i).ip).b3.toNat : Int)), .int .u8 ((((nth l i).ip).b4.toNat : Int)), .int .u8 ((((nth l i).ip).b5.toNat : Int)), .int .u8 ((((nth l i).ip).b6.toNat : Int)), .int .u8 ((((nth l i).ip).b7.toNat : Int)), .int .u8 ((((nth l i).ip).b8.toNat : Int)), .int .u8 ((((nth l i).ip).b9.toNat : Int)), .int .u8 ((((nth l i).ip).b10.toNat : Int)), .int .u8 ((((nth l i).ip).b11.toNat : Int)), .int .u8 ((((nth l i).ip).b12.toNat : Int)), .int .u8 ((((nth l i).ip).b13.toNat : Int)), .int .u8 ((((nth l i).ip).b14.toNat : Int)), .int .u8 ((((nth l i).ip).b15.toNat : Int)), .int .i64 ((nth l i).port)]), (70, .slice (some ⟨b7, 0, none⟩) 1 1), (72, .slice q r.length qc), (73, .int .i64 ((at' : Int))), (74, .slice (subP q qc at' 18) ((r.drop at').length) (qc - at'))] ∧ Own W noX [.blk b7 (.cells #[.bool (((nth l i).ip).six), .int .u8 ((((nth l i).ip).b0.toNat : Int)), .int .u8 ((((nth l i).ip).b1.toNat : Int)), .int .u8 ((((nth l i).ip).b2.toNat : Int)), .int .u8 ((((nth l i).ip).b3.toNat : Int)), .int .u8 ((((nth l i).ip).b4.toNat : Int)), .int .u8 ((((nth l i).ip).b5.toNat : Int)), .int .u8 ((((nth l i).ip).b6.toNat : Int)), .int .u8 ((((nth l i).ip).b7.toNat : Int)), .int .u8 ((((nth l i).ip).b8.toNat : Int)), .int .u8 ((((nth l i).ip).b9.toNat : Int)), .int .u8 ((((nth l i).ip).b10.toNat : Int)), .int .u8 ((((nth l i).ip).b11.toNat : Int)), .int .u8 ((((nth l i).ip).b12.toNat : Int)), .int .u8 ((((nth l i).ip).b13.toNat : Int)), .int .u8 ((((nth l i).ip).b14.toNat : Int)), .int .u8 ((((nth l i).ip).b15.toNat : Int)), .int .i64 ((nth l i).port)] 68 (0, 0)), rowL ptL 18 68 p4 cap4 (r.take at'), .blk b2 (.cells #[.bool (((nth l i).ip).six), .int .u8 ((((nth l i).ip).b0.toNat : Int)), .int .u8 ((((nth l i).ip).b1.toNat : Int)), .int .u8 ((((nth l i).ip).b2.toNat : Int)), .int .u8 ((((nth l i).ip).b3.toNat : Int)), .int .u8 ((((nth l i).ip).b4.toNat : Int)), .int .u8 ((((nth l i).ip).b5.toNat : Int)), .int .u8 ((((nth l i).ip).b6.toNat : Int)), .int .u8 ((((nth l i).ip).b7.toNat : Int)), .int .u8 ((((nth l i).ip).b8.toNat : Int)), .int .u8 ((((nth l i).ip).b9.toNat : Int)), .int .u8 ((((nth l i).ip).b10.toNat : Int)), .int .u8 ((((nth l i).ip).b11.toNat : Int)), .int .u8 ((((nth l i).ip).b12.toNat : Int)), .int .u8 ((((nth l i).ip).b13.toNat : Int)), .int .u8 ((((nth l i).ip).b14.toNat : Int)), .int .u8 ((((nth l i).ip).b15.toNat : Int)), .int .i64 ((nth l i).port)] 68 (0, 0)), rowL ptL 18 68 q qc r] Wx) (fuel := 3) (listed := #[true, true, true, true, true, true, true, false, true, true, true, false, false]) ?_ ?_
        ·
         clear hF hO; rintro a W19 ⟨b7, p4, cap4, hF, hO⟩
         refine A_one (i := 7) (listed' := #[true, true, true, true, true, true, true, true, true, true, true, false, false]) (by kernel_rfl) rfl (by kernel_rfl) ?_
         obtain ⟨p5, cap5, W20, hap, hO1, -⟩ := run_append_row (P := Tryz.prog) (ty := 92) (t := 92) (z := .agg #[.bool false, .int .u8 0, .int .u8 0, .int .u8 0, .int .u8 0, .int .u8 0, .int .u8 0, .int .u8 0, .int .u8 0, .int .u8 0, .int .u8 0, .int .u8 0, .int .u8 0, .int .u8 0, .int .u8 0, .int .u8 0, .int .u8 0, .int .i64 0]) (k := 18) (bytes := 32) (q := some ⟨b7, 0, none⟩) (ys := ([(nth l i)] : List Pt)) (cq := 1) hO (.tail (.head _)) (by kernel_rfl) (by kernel_rfl) (by kernel_rfl) (by decide) (fun _ => rfl) (fun _ => rfl) (SlAt.blk hO List.mem_cons_self (by kernel_rfl)) (by (try simp only [List.length_append, List.length_take, List.length_drop, List.length_cons, List.length_nil, maxLen]); omega) (by (try simp only [List.length_append, List.length_take, List.length_drop, List.length_cons, List.length_nil, maxLen]); omega)
         refine OpK.valW hF (by kernel_rfl) (by kernel_rfl) (x_app hap rfl (by kernel_rfl) (by kernel_rfl) rfl) (by kernel_rfl) ?_
         clear hap hF; intro a hF; replace hO := hO1; clear hO1
         refine ⟨hO.sub (.cons _ (.cons _ (.cons_cons _ (.cons_cons _ (List.nil_sublist _))))), ?_⟩
         refine A_one (i := 11) (listed' := #[true, true, true, true, true, true, true, true, true, true, true, true, false]) (by kernel_rfl) rfl (by kernel_rfl) ?_
         obtain ⟨p6, cap6, W21, hap, hO1, -⟩ := run_append_row (P := Tryz.prog) (ty := 92) (t := 92) (z := .agg #[.bool false, .int .u8 0, .int .u8 0, .int .u8 0, .int .u8 0, .int .u8 0, .int .u8 0, .int .u8 0, .int .u8 0, .int .u8 0, .int .u8 0, .int .u8 0, .int .u8 0, .int .u8 0, .int .u8 0, .int .u8 0, .int .u8 0, .int .i64 0]) (k := 18) (bytes := 32) (q := subP q qc at' 18) (ys := r.drop at') (cq := qc - at') hO (.head _) (by kernel_rfl) (by kernel_rfl) (by kernel_rfl) (by decide) (fun _ => rfl) (fun _ => rfl) (SlAt.dropL (k := 18) (hO.row (List.mem_cons_of_mem _ (List.mem_cons_of_mem _ (List.mem_cons_of_mem _ List.mem_cons_self)))) (fun _ => rfl) qc at' (by have := (hO.rowCap (List.mem_cons_of_mem _ (List.mem_cons_of_mem _ (List.mem_cons_of_mem _ List.mem_cons_self)))); (try simp only [List.length_take]); omega)) (by (try simp only [List.length_append, List.length_take, List.length_drop, List.length_cons, List.length_nil, maxLen]); omega) (by (try simp only [List.length_append, List.length_take, List.length_drop, List.length_cons, List.length_nil, maxLen]); omega)
         refine OpK.valW hF (by kernel_rfl) (by kernel_rfl) (x_app hap rfl (by kernel_rfl) (by kernel_rfl) rfl) (by kernel_rfl) ?_
         clear hap hF; intro a hF; replace hO := hO1; clear hO1
         refine ⟨hO.sub (.cons _ (.cons _ (.cons_cons _ (.cons_cons _ (List.nil_sublist _))))), ?_⟩
         have hS := hO.sub (.cons _ (.cons _ (.cons_cons _ (.cons_cons _ (List.nil_sublist _)))))
         refine Tk 12 rfl hF (.slice p6 ((((r.take at') ++ ([(nth l i)] : List Pt)) ++ (r.drop at')).length) cap6) (fun Wx _ => by kernel_rfl) hS ?_; clear hF; intro a hF
         refine A_done (by kernel_rfl) ?_
         refine block_normal ?_
         refine hK7 _ _ ?_
         refine wp_region_lit ?_
         refine Vr hF (.int .i64 ((i : Int) + 1)) (x_int (x := IntKind.i64.wrap ((i : Int) + 1)) (i64In (by omega) (by omega)) (by kernel_rfl)) ?_; clear hF; intro a hF
         refine Vp hF (.int .i64 ((i : Int) + 1)) ?_; clear hF; intro a hF
         refine L_nil ?_
         refine hK_1 ((i + 1, p6, cap6, ((r.take at') ++ ([(nth l i)] : List Pt)) ++ (r.drop at'))) _ _ (by first | omega | (dsimp only; omega)) ⟨(by have hps := posL_at hI2.1 hI2.2 (by first | exact .inl (by assumption) | exact .inr (by assumption)); exact ⟨by omega, rf_yes hI.2.1 ((stay_end (by omega) hJ).1 (by assumption)) (by omega) hps, by dsimp only; simp only [List.length_append, List.length_take, List.length_drop, List.length_cons, List.length_nil]; omega⟩), ?_, ?_⟩
         · exact hF.restrict ⟨(by kernel_rfl), (by kernel_rfl), (congrArg some (by first | rfl | exact congrArg (Value.int _) (by omega))), (by kernel_rfl), (by kernel_rfl), (congrArg some (by first | rfl | exact congrArg (Value.int _) (by omega))), trivial⟩
         · exact hO.sub (.cons_cons _ (List.nil_sublist _))
        ·
         intro hcut3
         refine A_many [4, 6] (by kernel_rfl) rfl ⟨?_, ?_, trivial⟩
         ·
          refine A_br (listed' := #[true, true, true, true, true, true, false, false, true, true, true, false, false]) rfl (by kernel_rfl) ?_
          replace hO := hO.asRow (k := 18) (cap := 0) ptL ([] : List Pt) (.head _) (by decide) (by kernel_rfl) (by decide) (by kernel_rfl)
          obtain ⟨p7, cap7, W22, hap, hO1, -⟩ := run_append_row (P := Tryz.prog) (ty := 92) (t := 92) (z := .agg #[.bool false, .int .u8 0, .int .u8 0, .int .u8 0, .int .u8 0, .int .u8 0, .int .u8 0, .int .u8 0, .int .u8 0, .int .u8 0, .int .u8 0, .int .u8 0, .int .u8 0, .int .u8 0, .int .u8 0, .int .u8 0, .int .u8 0, .int .i64 0]) (k := 18) (bytes := 32) (q := q) (ys := r.take at') (cq := qc) hO (.head _) (by kernel_rfl) (by kernel_rfl) (by kernel_rfl) (by decide) (fun _ => rfl) (fun _ => rfl) (SlAt.takeL (k := 18) (hO.row (List.mem_cons_of_mem _ (List.mem_cons_of_mem _ List.mem_cons_self))) (fun _ => rfl) at') (by (try simp only [List.length_append, List.length_take, List.length_drop, List.length_cons, List.length_nil, maxLen]); omega) (by (try simp only [List.length_append, List.length_take, List.length_drop, List.length_cons, List.length_nil, maxLen]); omega)
          refine OpK.valW hF (by kernel_rfl) (by kernel_rfl) (x_app hap rfl (by kernel_rfl) (by kernel_rfl) rfl) (by kernel_rfl) ?_
          clear hap hF; intro a hF; replace hO := hO1; clear hO1
          refine ⟨hO.sub (.cons _ (.cons_cons _ (.cons_cons _ (List.nil_sublist _)))), ?_⟩
          refine A_one (i := 6) (listed' := #[true, true, true, true, true, true, true, false, true, true, true, false, false]) (by kernel_rfl) rfl (by kernel_rfl) ?_
          refine OpK.new hF hO (by kernel_rfl) (by kernel_rfl) (vf := fun b => .slice (some ⟨b, 0, none⟩) 1 1) (ob := .cells #[.bool (((nth l i).ip).six), .int .u8 ((((nth l i).ip).b0.toNat : Int)), .int .u8 ((((nth l i).ip).b1.toNat : Int)), .int .u8 ((((nth l i).ip).b2.toNat : Int)), .int .u8 ((((nth l i).ip).b3.toNat : Int)), .int .u8 ((((nth l i).ip).b4.toNat : Int)), .int .u8 ((((nth l i).ip).b5.toNat : Int)), .int .u8 ((((nth l i).ip).b6.toNat : Int)), .int .u8 ((((nth l i).ip).b7.toNat : Int)), .int .u8 ((((nth l i).ip).b8.toNat : Int)), .int .u8 ((((nth l i).ip).b9.toNat : Int)), .int .u8 ((((nth l i).ip).b10.toNat : Int)), .int .u8 ((((nth l i).ip).b11.toNat : Int)), .int .u8 ((((nth l i).ip).b12.toNat : Int)), .int .u8 ((((nth l i).ip).b13.toNat : Int)), .int .u8 ((((nth l i).ip).b14.toNat : Int)), .int .u8 ((((nth l i).ip).b15.toNat : Int)), .int .i64 ((nth l i).port)] 68) (by kernel_rfl) (by kernel_rfl) ?_
          clear hF hO; intro b8 W23 a hO hF
          refine ⟨hO.sub (.cons _ (.cons _ (.cons_cons _ (.cons_cons _ (List.nil_sublist _))))), ?_⟩
          refine A_one (i := 7) (listed' := #[true, true, true, true, true, true, true, true, true, true, true, false, false]) (by kernel_rfl) rfl (by kernel_rfl) ?_
          obtain ⟨p8, cap8, W24, hap, hO1, -⟩ := run_append_row (P := Tryz.prog) (ty := 92) (t := 92) (z := .agg #[.bool false, .int .u8 0, .int .u8 0, .int .u8 0, .int .u8 0, .int .u8 0, .int .u8 0, .int .u8 0, .int .u8 0, .int .u8 0, .int .u8 0, .int .u8 0, .int .u8 0, .int .u8 0, .int .u8 0, .int .u8 0, .int .u8 0, .int .i64 0]) (k := 18) (bytes := 32) (q := some ⟨b8, 0, none⟩) (ys := ([(nth l i)] : List Pt)) (cq := 1) hO (.tail (.head _)) (by kernel_rfl) (by kernel_rfl) (by kernel_rfl) (by decide) (fun _ => rfl) (fun _ => rfl) (SlAt.blk hO List.mem_cons_self (by kernel_rfl)) (by (try simp only [List.length_append, List.length_take, List.length_drop, List.length_cons, List.length_nil, maxLen]); omega) (by (try simp only [List.length_append, List.length_take, List.length_drop, List.length_cons, List.length_nil, maxLen]); omega)
          refine OpK.valW hF (by kernel_rfl) (by kernel_rfl) (x_app hap rfl (by kernel_rfl) (by kernel_rfl) rfl) (by kernel_rfl) ?_
          clear hap hF; intro a hF; replace hO := hO1; clear hO1
          refine ⟨hO.sub (.cons _ (.cons _ (.cons_cons _ (.cons_cons _ (List.nil_sublist _))))), ?_⟩
          refine A_one (i := 11) (listed' := #[true, true, true, true, true, true, true, true, true, true, true, true, false]) (by kernel_rfl) rfl (by kernel_rfl) ?_
          obtain ⟨p9, cap9, W25, hap, hO1, -⟩ := run_append_row (P := Tryz.prog) (ty := 92) (t := 92) (z := .agg #[.bool false, .int .u8 0, .int .u8 0, .int .u8 0, .int .u8 0, .int .u8 0, .int .u8 0, .int .u8 0, .int .u8 0, .int .u8 0, .int .u8 0, .int .u8 0, .int .u8 0, .int .u8 0, .int .u8 0, .int .u8 0, .int .u8 0, .int .i64 0]) (k := 18) (bytes := 32) (q := subP q qc at' 18) (ys := r.drop at') (cq := qc - at') hO (.head _) (by kernel_rfl) (by kernel_rfl) (by kernel_rfl) (by decide) (fun _ => rfl) (fun _ => rfl) (SlAt.dropL (k := 18) (hO.row (List.mem_cons_of_mem _ (List.mem_cons_of_mem _ (List.mem_cons_of_mem _ List.mem_cons_self)))) (fun _ => rfl) qc at' (by have := (hO.rowCap (List.mem_cons_of_mem _ (List.mem_cons_of_mem _ (List.mem_cons_of_mem _ List.mem_cons_self)))); (try simp only [List.length_take]); omega)) (by (try simp only [List.length_append, List.length_take, List.length_drop, List.length_cons, List.length_nil, maxLen]); omega) (by (try simp only [List.length_append, List.length_take, List.length_drop, List.length_cons, List.length_nil, maxLen]); omega)
          refine OpK.valW hF (by kernel_rfl) (by kernel_rfl) (x_app hap rfl (by kernel_rfl) (by kernel_rfl) rfl) (by kernel_rfl) ?_
          clear hap hF; intro a hF; replace hO := hO1; clear hO1
          refine ⟨hO.sub (.cons _ (.cons _ (.cons_cons _ (.cons_cons _ (List.nil_sublist _))))), ?_⟩
          have hS := hO.sub (.cons _ (.cons _ (.cons_cons _ (.cons_cons _ (List.nil_sublist _)))))
          refine Tk 12 rfl hF (.slice p9 ((((r.take at') ++ ([(nth l i)] : List Pt)) ++ (r.drop at')).length) cap9) (fun Wx _ => by kernel_rfl) hS ?_; clear hF; intro a hF
          refine A_done (by kernel_rfl) ?_
          refine block_normal ?_
          refine hK7 _ _ ?_
          refine wp_region_lit ?_
          refine Vr hF (.int .i64 ((i : Int) + 1)) (x_int (x := IntKind.i64.wrap ((i : Int) + 1)) (i64In (by omega) (by omega)) (by kernel_rfl)) ?_; clear hF; intro a hF
          refine Vp hF (.int .i64 ((i : Int) + 1)) ?_; clear hF; intro a hF
          refine L_nil ?_
          refine hK_1 ((i + 1, p9, cap9, ((r.take at') ++ ([(nth l i)] : List Pt)) ++ (r.drop at'))) _ _ (by first | omega | (dsimp only; omega)) ⟨(by have hps := posL_at hI2.1 hI2.2 (by first | exact .inl (by assumption) | exact .inr (by assumption)); exact ⟨by omega, rf_yes hI.2.1 ((stay_end (by omega) hJ).1 (by assumption)) (by omega) hps, by dsimp only; simp only [List.length_append, List.length_take, List.length_drop, List.length_cons, List.length_nil]; omega⟩), ?_, ?_⟩
          · exact hF.restrict ⟨(by kernel_rfl), (by kernel_rfl), (congrArg some (by first | rfl | exact congrArg (Value.int _) (by omega))), (by kernel_rfl), (by kernel_rfl), (congrArg some (by first | rfl | exact congrArg (Value.int _) (by omega))), trivial⟩
          · exact hO.sub (.cons_cons _ (List.nil_sublist _))
         ·
          refine A_br (listed' := #[true, true, true, true, false, true, true, false, true, true, true, false, false]) rfl (by kernel_rfl) ?_
          refine OpK.new hF hO (by kernel_rfl) (by kernel_rfl) (vf := fun b => .slice (some ⟨b, 0, none⟩) 1 1) (ob := .cells #[.bool (((nth l i).ip).six), .int .u8 ((((nth l i).ip).b0.toNat : Int)), .int .u8 ((((nth l i).ip).b1.toNat : Int)), .int .u8 ((((nth l i).ip).b2.toNat : Int)), .int .u8 ((((nth l i).ip).b3.toNat : Int)), .int .u8 ((((nth l i).ip).b4.toNat : Int)), .int .u8 ((((nth l i).ip).b5.toNat : Int)), .int .u8 ((((nth l i).ip).b6.toNat : Int)), .int .u8 ((((nth l i).ip).b7.toNat : Int)), .int .u8 ((((nth l i).ip).b8.toNat : Int)), .int .u8 ((((nth l i).ip).b9.toNat : Int)), .int .u8 ((((nth l i).ip).b10.toNat : Int)), .int .u8 ((((nth l i).ip).b11.toNat : Int)), .int .u8 ((((nth l i).ip).b12.toNat : Int)), .int .u8 ((((nth l i).ip).b13.toNat : Int)), .int .u8 ((((nth l i).ip).b14.toNat : Int)), .int .u8 ((((nth l i).ip).b15.toNat : Int)), .int .i64 ((nth l i).port)] 68) (by kernel_rfl) (by kernel_rfl) ?_
          clear hF hO; intro b9 W26 a hO hF
          refine ⟨hO.sub (.cons _ (.cons _ (.cons_cons _ (.cons_cons _ (List.nil_sublist _))))), ?_⟩
          refine A_one (i := 4) (listed' := #[true, true, true, true, true, true, true, false, true, true, true, false, false]) (by kernel_rfl) rfl (by kernel_rfl) ?_
          replace hO := hO.asRow (k := 18) (cap := 0) ptL ([] : List Pt) (.tail (.head _)) (by decide) (by kernel_rfl) (by decide) (by kernel_rfl)
          obtain ⟨p10, cap10, W27, hap, hO1, -⟩ := run_append_row (P := Tryz.prog) (ty := 92) (t := 92) (z := .agg #[.bool false, .int .u8 0, .int .u8 0, .int .u8 0, .int .u8 0, .int .u8 0, .int .u8 0, .int .u8 0, .int .u8 0, .int .u8 0, .int .u8 0, .int .u8 0, .int .u8 0, .int .u8 0, .int .u8 0, .int .u8 0, .int .u8 0, .int .i64 0]) (k := 18) (bytes := 32) (q := q) (ys := r.take at') (cq := qc) hO (.tail (.head _)) (by kernel_rfl) (by kernel_rfl) (by kernel_rfl) (by decide) (fun _ => rfl) (fun _ => rfl) (SlAt.takeL (k := 18) (hO.row (List.mem_cons_of_mem _ (List.mem_cons_of_mem _ (List.mem_cons_of_mem _ List.mem_cons_self)))) (fun _ => rfl) at') (by (try simp only [List.length_append, List.length_take, List.length_drop, List.length_cons, List.length_nil, maxLen]); omega) (by (try simp only [List.length_append, List.length_take, List.length_drop, List.length_cons, List.length_nil, maxLen]); omega)
          refine OpK.valW hF (by kernel_rfl) (by kernel_rfl) (x_app hap rfl (by kernel_rfl) (by kernel_rfl) rfl) (by kernel_rfl) ?_
          clear hap hF; intro a hF; replace hO := hO1; clear hO1
          refine ⟨hO.sub (.cons _ (.cons _ (.cons_cons _ (.cons_cons _ (List.nil_sublist _))))), ?_⟩
          refine A_one (i := 7) (listed' := #[true, true, true, true, true, true, true, true, true, true, true, false, false]) (by kernel_rfl) rfl (by kernel_rfl) ?_
          obtain ⟨p11, cap11, W28, hap, hO1, -⟩ := run_append_row (P := Tryz.prog) (ty := 92) (t := 92) (z := .agg #[.bool false, .int .u8 0, .int .u8 0, .int .u8 0, .int .u8 0, .int .u8 0, .int .u8 0, .int .u8 0, .int .u8 0, .int .u8 0, .int .u8 0, .int .u8 0, .int .u8 0, .int .u8 0, .int .u8 0, .int .u8 0, .int .u8 0, .int .i64 0]) (k := 18) (bytes := 32) (q := some ⟨b9, 0, none⟩) (ys := ([(nth l i)] : List Pt)) (cq := 1) hO (.head _) (by kernel_rfl) (by kernel_rfl) (by kernel_rfl) (by decide) (fun _ => rfl) (fun _ => rfl) (SlAt.blk hO (List.mem_cons_of_mem _ List.mem_cons_self) (by kernel_rfl)) (by (try simp only [List.length_append, List.length_take, List.length_drop, List.length_cons, List.length_nil, maxLen]); omega) (by (try simp only [List.length_append, List.length_take, List.length_drop, List.length_cons, List.length_nil, maxLen]); omega)
          refine OpK.valW hF (by kernel_rfl) (by kernel_rfl) (x_app hap rfl (by kernel_rfl) (by kernel_rfl) rfl) (by kernel_rfl) ?_
          clear hap hF; intro a hF; replace hO := hO1; clear hO1
          refine ⟨hO.sub (.cons _ (.cons _ (.cons_cons _ (.cons_cons _ (List.nil_sublist _))))), ?_⟩
          refine A_one (i := 11) (listed' := #[true, true, true, true, true, true, true, true, true, true, true, true, false]) (by kernel_rfl) rfl (by kernel_rfl) ?_
          obtain ⟨p12, cap12, W29, hap, hO1, -⟩ := run_append_row (P := Tryz.prog) (ty := 92) (t := 92) (z := .agg #[.bool false, .int .u8 0, .int .u8 0, .int .u8 0, .int .u8 0, .int .u8 0, .int .u8 0, .int .u8 0, .int .u8 0, .int .u8 0, .int .u8 0, .int .u8 0, .int .u8 0, .int .u8 0, .int .u8 0, .int .u8 0, .int .u8 0, .int .i64 0]) (k := 18) (bytes := 32) (q := subP q qc at' 18) (ys := r.drop at') (cq := qc - at') hO (.head _) (by kernel_rfl) (by kernel_rfl) (by kernel_rfl) (by decide) (fun _ => rfl) (fun _ => rfl) (SlAt.dropL (k := 18) (hO.row (List.mem_cons_of_mem _ (List.mem_cons_of_mem _ (List.mem_cons_of_mem _ List.mem_cons_self)))) (fun _ => rfl) qc at' (by have := (hO.rowCap (List.mem_cons_of_mem _ (List.mem_cons_of_mem _ (List.mem_cons_of_mem _ List.mem_cons_self)))); (try simp only [List.length_take]); omega)) (by (try simp only [List.length_append, List.length_take, List.length_drop, List.length_cons, List.length_nil, maxLen]); omega) (by (try simp only [List.length_append, List.length_take, List.length_drop, List.length_cons, List.length_nil, maxLen]); omega)
          refine OpK.valW hF (by kernel_rfl) (by kernel_rfl) (x_app hap rfl (by kernel_rfl) (by kernel_rfl) rfl) (by kernel_rfl) ?_
          clear hap hF; intro a hF; replace hO := hO1; clear hO1
          refine ⟨hO.sub (.cons _ (.cons _ (.cons_cons _ (.cons_cons _ (List.nil_sublist _))))), ?_⟩
          have hS := hO.sub (.cons _ (.cons _ (.cons_cons _ (.cons_cons _ (List.nil_sublist _)))))
          refine Tk 12 rfl hF (.slice p12 ((((r.take at') ++ ([(nth l i)] : List Pt)) ++ (r.drop at')).length) cap12) (fun Wx _ => by kernel_rfl) hS ?_; clear hF; intro a hF
          refine A_done (by kernel_rfl) ?_
          refine block_normal ?_
          refine hK7 _ _ ?_
          refine wp_region_lit ?_
          refine Vr hF (.int .i64 ((i : Int) + 1)) (x_int (x := IntKind.i64.wrap ((i : Int) + 1)) (i64In (by omega) (by omega)) (by kernel_rfl)) ?_; clear hF; intro a hF
          refine Vp hF (.int .i64 ((i : Int) + 1)) ?_; clear hF; intro a hF
          refine L_nil ?_
          refine hK_1 ((i + 1, p12, cap12, ((r.take at') ++ ([(nth l i)] : List Pt)) ++ (r.drop at'))) _ _ (by first | omega | (dsimp only; omega)) ⟨(by have hps := posL_at hI2.1 hI2.2 (by first | exact .inl (by assumption) | exact .inr (by assumption)); exact ⟨by omega, rf_yes hI.2.1 ((stay_end (by omega) hJ).1 (by assumption)) (by omega) hps, by dsimp only; simp only [List.length_append, List.length_take, List.length_drop, List.length_cons, List.length_nil]; omega⟩), ?_, ?_⟩
          · exact hF.restrict ⟨(by kernel_rfl), (by kernel_rfl), (congrArg some (by first | rfl | exact congrArg (Value.int _) (by omega))), (by kernel_rfl), (by kernel_rfl), (congrArg some (by first | rfl | exact congrArg (Value.int _) (by omega))), trivial⟩
          · exact hO.sub (.cons_cons _ (List.nil_sublist _))
       ·
        refine A_br (listed' := #[false, true, true, true, false, true, true, false, true, true, true, false, false]) rfl (by kernel_rfl) ?_
        refine OpK.new hF hO (by kernel_rfl) (by kernel_rfl) (vf := fun b => .slice (some ⟨b, 0, none⟩) 1 1) (ob := .cells #[.bool (((nth l i).ip).six), .int .u8 ((((nth l i).ip).b0.toNat : Int)), .int .u8 ((((nth l i).ip).b1.toNat : Int)), .int .u8 ((((nth l i).ip).b2.toNat : Int)), .int .u8 ((((nth l i).ip).b3.toNat : Int)), .int .u8 ((((nth l i).ip).b4.toNat : Int)), .int .u8 ((((nth l i).ip).b5.toNat : Int)), .int .u8 ((((nth l i).ip).b6.toNat : Int)), .int .u8 ((((nth l i).ip).b7.toNat : Int)), .int .u8 ((((nth l i).ip).b8.toNat : Int)), .int .u8 ((((nth l i).ip).b9.toNat : Int)), .int .u8 ((((nth l i).ip).b10.toNat : Int)), .int .u8 ((((nth l i).ip).b11.toNat : Int)), .int .u8 ((((nth l i).ip).b12.toNat : Int)), .int .u8 ((((nth l i).ip).b13.toNat : Int)), .int .u8 ((((nth l i).ip).b14.toNat : Int)), .int .u8 ((((nth l i).ip).b15.toNat : Int)), .int .i64 ((nth l i).port)] 68) (by kernel_rfl) (by kernel_rfl) ?_
        clear hF hO; intro b10 W30 a hO hF
        refine ⟨hO.sub (.cons _ (.cons_cons _ (.cons_cons _ (List.nil_sublist _)))), ?_⟩
        refine A_one (i := 0) (listed' := #[true, true, true, true, false, true, true, false, true, true, true, false, false]) (by kernel_rfl) rfl (by kernel_rfl) ?_
        refine OpK.new hF hO (by kernel_rfl) (by kernel_rfl) (vf := fun b => .slice (some ⟨b, 0, none⟩) 0 0) (ob := .cells #[] 68) (by kernel_rfl) (by kernel_rfl) ?_
        clear hF hO; intro b11 W31 a hO hF
        refine ⟨hO.sub (.cons _ (.cons _ (.cons_cons _ (.cons_cons _ (List.nil_sublist _))))), ?_⟩
        refine A_one (i := 4) (listed' := #[true, true, true, true, true, true, true, false, true, true, true, false, false]) (by kernel_rfl) rfl (by kernel_rfl) ?_
        replace hO := hO.asRow (k := 18) (cap := 0) ptL ([] : List Pt) (.head _) (by decide) (by kernel_rfl) (by decide) (by kernel_rfl)
        obtain ⟨p13, cap13, W32, hap, hO1, -⟩ := run_append_row (P := Tryz.prog) (ty := 92) (t := 92) (z := .agg #[.bool false, .int .u8 0, .int .u8 0, .int .u8 0, .int .u8 0, .int .u8 0, .int .u8 0, .int .u8 0, .int .u8 0, .int .u8 0, .int .u8 0, .int .u8 0, .int .u8 0, .int .u8 0, .int .u8 0, .int .u8 0, .int .u8 0, .int .i64 0]) (k := 18) (bytes := 32) (q := q) (ys := r.take at') (cq := qc) hO (.head _) (by kernel_rfl) (by kernel_rfl) (by kernel_rfl) (by decide) (fun _ => rfl) (fun _ => rfl) (SlAt.takeL (k := 18) (hO.row (List.mem_cons_of_mem _ (List.mem_cons_of_mem _ (List.mem_cons_of_mem _ List.mem_cons_self)))) (fun _ => rfl) at') (by (try simp only [List.length_append, List.length_take, List.length_drop, List.length_cons, List.length_nil, maxLen]); omega) (by (try simp only [List.length_append, List.length_take, List.length_drop, List.length_cons, List.length_nil, maxLen]); omega)
        refine OpK.valW hF (by kernel_rfl) (by kernel_rfl) (x_app hap rfl (by kernel_rfl) (by kernel_rfl) rfl) (by kernel_rfl) ?_
        clear hap hF; intro a hF; replace hO := hO1; clear hO1
        refine ⟨hO.sub (.cons _ (.cons _ (.cons_cons _ (.cons_cons _ (List.nil_sublist _))))), ?_⟩
        refine A_one (i := 7) (listed' := #[true, true, true, true, true, true, true, true, true, true, true, false, false]) (by kernel_rfl) rfl (by kernel_rfl) ?_
        obtain ⟨p14, cap14, W33, hap, hO1, -⟩ := run_append_row (P := Tryz.prog) (ty := 92) (t := 92) (z := .agg #[.bool false, .int .u8 0, .int .u8 0, .int .u8 0, .int .u8 0, .int .u8 0, .int .u8 0, .int .u8 0, .int .u8 0, .int .u8 0, .int .u8 0, .int .u8 0, .int .u8 0, .int .u8 0, .int .u8 0, .int .u8 0, .int .u8 0, .int .i64 0]) (k := 18) (bytes := 32) (q := some ⟨b10, 0, none⟩) (ys := ([(nth l i)] : List Pt)) (cq := 1) hO (.head _) (by kernel_rfl) (by kernel_rfl) (by kernel_rfl) (by decide) (fun _ => rfl) (fun _ => rfl) (SlAt.blk hO (List.mem_cons_of_mem _ List.mem_cons_self) (by kernel_rfl)) (by (try simp only [List.length_append, List.length_take, List.length_drop, List.length_cons, List.length_nil, maxLen]); omega) (by (try simp only [List.length_append, List.length_take, List.length_drop, List.length_cons, List.length_nil, maxLen]); omega)
        refine OpK.valW hF (by kernel_rfl) (by kernel_rfl) (x_app hap rfl (by kernel_rfl) (by kernel_rfl) rfl) (by kernel_rfl) ?_
        clear hap hF; intro a hF; replace hO := hO1; clear hO1
        refine ⟨hO.sub (.cons _ (.cons _ (.cons_cons _ (.cons_cons _ (List.nil_sublist _))))), ?_⟩
        refine A_one (i := 11) (listed' := #[true, true, true, true, true, true, true, true, true, true, true, true, false]) (by kernel_rfl) rfl (by kernel_rfl) ?_
        obtain ⟨p15, cap15, W34, hap, hO1, -⟩ := run_append_row (P := Tryz.prog) (ty := 92) (t := 92) (z := .agg #[.bool false, .int .u8 0, .int .u8 0, .int .u8 0, .int .u8 0, .int .u8 0, .int .u8 0, .int .u8 0, .int .u8 0, .int .u8 0, .int .u8 0, .int .u8 0, .int .u8 0, .int .u8 0, .int .u8 0, .int .u8 0, .int .u8 0, .int .i64 0]) (k := 18) (bytes := 32) (q := subP q qc at' 18) (ys := r.drop at') (cq := qc - at') hO (.head _) (by kernel_rfl) (by kernel_rfl) (by kernel_rfl) (by decide) (fun _ => rfl) (fun _ => rfl) (SlAt.dropL (k := 18) (hO.row (List.mem_cons_of_mem _ (List.mem_cons_of_mem _ (List.mem_cons_of_mem _ List.mem_cons_self)))) (fun _ => rfl) qc at' (by have := (hO.rowCap (List.mem_cons_of_mem _ (List.mem_cons_of_mem _ (List.mem_cons_of_mem _ List.mem_cons_self)))); (try simp only [List.length_take]); omega)) (by (try simp only [List.length_append, List.length_take, List.length_drop, List.length_cons, List.length_nil, maxLen]); omega) (by (try simp only [List.length_append, List.length_take, List.length_drop, List.length_cons, List.length_nil, maxLen]); omega)
        refine OpK.valW hF (by kernel_rfl) (by kernel_rfl) (x_app hap rfl (by kernel_rfl) (by kernel_rfl) rfl) (by kernel_rfl) ?_
        clear hap hF; intro a hF; replace hO := hO1; clear hO1
        refine ⟨hO.sub (.cons _ (.cons _ (.cons_cons _ (.cons_cons _ (List.nil_sublist _))))), ?_⟩
        have hS := hO.sub (.cons _ (.cons _ (.cons_cons _ (.cons_cons _ (List.nil_sublist _)))))
        refine Tk 12 rfl hF (.slice p15 ((((r.take at') ++ ([(nth l i)] : List Pt)) ++ (r.drop at')).length) cap15) (fun Wx _ => by kernel_rfl) hS ?_; clear hF; intro a hF
        refine A_done (by kernel_rfl) ?_
        refine block_normal ?_
        refine hK7 _ _ ?_
        refine wp_region_lit ?_
        refine Vr hF (.int .i64 ((i : Int) + 1)) (x_int (x := IntKind.i64.wrap ((i : Int) + 1)) (i64In (by omega) (by omega)) (by kernel_rfl)) ?_; clear hF; intro a hF
        refine Vp hF (.int .i64 ((i : Int) + 1)) ?_; clear hF; intro a hF
        refine L_nil ?_
        refine hK_1 ((i + 1, p15, cap15, ((r.take at') ++ ([(nth l i)] : List Pt)) ++ (r.drop at'))) _ _ (by first | omega | (dsimp only; omega)) ⟨(by have hps := posL_at hI2.1 hI2.2 (by first | exact .inl (by assumption) | exact .inr (by assumption)); exact ⟨by omega, rf_yes hI.2.1 ((stay_end (by omega) hJ).1 (by assumption)) (by omega) hps, by dsimp only; simp only [List.length_append, List.length_take, List.length_drop, List.length_cons, List.length_nil]; omega⟩), ?_, ?_⟩
        · exact hF.restrict ⟨(by kernel_rfl), (by kernel_rfl), (congrArg some (by first | rfl | exact congrArg (Value.int _) (by omega))), (by kernel_rfl), (by kernel_rfl), (congrArg some (by first | rfl | exact congrArg (Value.int _) (by omega))), trivial⟩
        · exact hO.sub (.cons_cons _ (List.nil_sublist _))
    ·
     replace hF := hF.know (d := 52) (v' := .bool false) (by kernel_rfl) (congrArg Value.bool (decide_eq_false q8))
     refine To 3 rfl hF hS ?_; clear hF; intro a hF
     refine To 4 rfl hF hS ?_; clear hF; intro a hF
     refine To 5 rfl hF hS ?_; clear hF; intro a hF
     refine To 6 rfl hF hS ?_; clear hF; intro a hF
     refine To 7 rfl hF hS ?_; clear hF; intro a hF
     refine To 8 rfl hF hS ?_; clear hF; intro a hF
     refine To 9 rfl hF hS ?_; clear hF; intro a hF
     refine To 10 rfl hF hS ?_; clear hF; intro a hF
     refine Tk 11 rfl hF (.bool false) (fun Wx _ => by kernel_rfl) hS ?_; clear hF; intro a hF
     refine A_done (by kernel_rfl) ?_
     refine hK22 _ _ ?_
     refine cond_f hF (by kernel_rfl) (by kernel_rfl) ?_
     refine wp_exit ?_
     refine then_exit ?_
     refine then_exit ?_
     refine inBlock_hit ?_
     refine hK20 _ _ ?_
     refine A_start (fun Wx => Own W noX [.blk b2 (.cells #[.bool (((nth l i).ip).six), .int .u8 ((((nth l i).ip).b0.toNat : Int)), .int .u8 ((((nth l i).ip).b1.toNat : Int)), .int .u8 ((((nth l i).ip).b2.toNat : Int)), .int .u8 ((((nth l i).ip).b3.toNat : Int)), .int .u8 ((((nth l i).ip).b4.toNat : Int)), .int .u8 ((((nth l i).ip).b5.toNat : Int)), .int .u8 ((((nth l i).ip).b6.toNat : Int)), .int .u8 ((((nth l i).ip).b7.toNat : Int)), .int .u8 ((((nth l i).ip).b8.toNat : Int)), .int .u8 ((((nth l i).ip).b9.toNat : Int)), .int .u8 ((((nth l i).ip).b10.toNat : Int)), .int .u8 ((((nth l i).ip).b11.toNat : Int)), .int .u8 ((((nth l i).ip).b12.toNat : Int)), .int .u8 ((((nth l i).ip).b13.toNat : Int)), .int .u8 ((((nth l i).ip).b14.toNat : Int)), .int .u8 ((((nth l i).ip).b15.toNat : Int)), .int .i64 ((nth l i).port)] 68 (0, 0)), rowL ptL 18 68 q qc r] Wx) (by kernel_rfl) ?_
     replace hO := hO.drewN 1
     generalize hWd : ({ Wl3_d with drawn := Wl3_d.drawn + 1 } : World) = Wl3_d_d at hO ⊢; clear hWd
     have hS := hO.sub (.cons_cons _ (.cons_cons _ (List.nil_sublist _)))
     refine Tk 1 rfl hF (.slice q r.length qc) (fun Wx _ => by kernel_rfl) hS ?_; clear hF; intro a hF
     refine Tk 2 rfl hF (.int .i64 ((at' : Int))) (fun Wx _ => by kernel_rfl) hS ?_; clear hF; intro a hF
     refine Tk 3 rfl hF (.slice q ((r.take at').length) qc) (fun Wx _ => (x_slSlH (p := q) (len := r.length) (cap := qc) (elem := 68) (k := 18) (hi := (at' : Int)) rfl (by kernel_rfl) (by kernel_rfl) (by kernel_rfl) ⟨.i64, (by kernel_rfl)⟩ (by omega) (by have := (hO.rowCap (List.mem_cons_of_mem _ List.mem_cons_self)); omega) (by (first | omega | (simp only [List.length_set, List.length_take, List.length_drop, List.length_append, List.length_cons, List.length_nil]; done) | (simp only [List.length_set, List.length_take, List.length_drop, List.length_append, List.length_cons, List.length_nil]; omega) | (simp only [List.length_set, List.length_take, List.length_drop, List.length_append, List.length_cons, List.length_nil] at *; omega))))) hS ?_; clear hF; intro a hF
     refine Tk 5 rfl hF (.agg #[.bool (((nth l i).ip).six), .int .u8 ((((nth l i).ip).b0.toNat : Int)), .int .u8 ((((nth l i).ip).b1.toNat : Int)), .int .u8 ((((nth l i).ip).b2.toNat : Int)), .int .u8 ((((nth l i).ip).b3.toNat : Int)), .int .u8 ((((nth l i).ip).b4.toNat : Int)), .int .u8 ((((nth l i).ip).b5.toNat : Int)), .int .u8 ((((nth l i).ip).b6.toNat : Int)), .int .u8 ((((nth l i).ip).b7.toNat : Int)), .int .u8 ((((nth l i).ip).b8.toNat : Int)), .int .u8 ((((nth l i).ip).b9.toNat : Int)), .int .u8 ((((nth l i).ip).b10.toNat : Int)), .int .u8 ((((nth l i).ip).b11.toNat : Int)), .int .u8 ((((nth l i).ip).b12.toNat : Int)), .int .u8 ((((nth l i).ip).b13.toNat : Int)), .int .u8 ((((nth l i).ip).b14.toNat : Int)), .int .u8 ((((nth l i).ip).b15.toNat : Int)), .int .i64 ((nth l i).port)]) (fun Wx hO => x_load (p := .pointer (some ⟨b2, 0, none⟩)) rfl (by kernel_rfl) (run_loadA (k := 18) (by kernel_rfl) (by kernel_rfl) (hO.blk List.mem_cons_self) (by kernel_rfl) (by kernel_rfl))) hS ?_; clear hF; intro a hF
     refine Tk 8 rfl hF (.slice q r.length qc) (fun Wx _ => by kernel_rfl) hS ?_; clear hF; intro a hF
     refine Tk 9 rfl hF (.int .i64 ((at' : Int))) (fun Wx _ => by kernel_rfl) hS ?_; clear hF; intro a hF
     refine Tk 10 rfl hF (.slice (subP q qc at' 18) ((r.drop at').length) (qc - at')) (fun Wx _ => (x_slSlL (p := q) (len := r.length) (cap := qc) (elem := 68) (k := 18) (lo := (at' : Int)) (hi := (r.length : Int)) rfl (by kernel_rfl) (by kernel_rfl) (by kernel_rfl) ⟨.i64, (by kernel_rfl)⟩ rfl (by omega) (by omega) (by have := (hO.rowCap (List.mem_cons_of_mem _ List.mem_cons_self)); omega) (by simp only [List.length_drop, List.length_take]; omega) rfl)) hS ?_; clear hF; intro a hF
     refine A_cut (fun a Wx => ∃ (b12 : Nat) (b13 : Nat) (p16 : Option Addr) (cap16 : Nat), Fr 78 a [(0, .slice p l.length cap), (2, .slice none 0 0), (3, .slice q r.length qc), (4, .int .i64 ((i : Int))), (5, .pointer (some ⟨b2, 0, none⟩)), (6, .bool (stayB l i j)), (9, .int .i64 ((at' : Int))), (11, .slice p l.length cap), (12, .int .i64 ((l.length : Int))), (13, .int .i64 ((i : Int))), (14, .bool true), (15, .int .i64 ((i : Int))), (16, .pointer (some ⟨(ab p), ao p + i * 18, none⟩)), (17, ptV (nth l i)), (18, .agg #[.bool (((nth l i).ip).six), .int .u8 ((((nth l i).ip).b0.toNat : Int)), .int .u8 ((((nth l i).ip).b1.toNat : Int)), .int .u8 ((((nth l i).ip).b2.toNat : Int)), .int .u8 ((((nth l i).ip).b3.toNat : Int)), .int .u8 ((((nth l i).ip).b4.toNat : Int)), .int .u8 ((((nth l i).ip).b5.toNat : Int)), .int .u8 ((((nth l i).ip).b6.toNat : Int)), .int .u8 ((((nth l i).ip).b7.toNat : Int)), .int .u8 ((((nth l i).ip).b8.toNat : Int)), .int .u8 ((((nth l i).ip).b9.toNat : Int)), .int .u8 ((((nth l i).ip).b10.toNat : Int)), .int .u8 ((((nth l i).ip).b11.toNat : Int)), .int .u8 ((((nth l i).ip).b12.toNat : Int)), .int .u8 ((((nth l i).ip).b13.toNat : Int)), .int .u8 ((((nth l i).ip).b14.toNat : Int)), .int .u8 ((((nth l i).ip).b15.toNat : Int)), .int .i64 ((nth l i).port)]), (19, .bool (rightCd (nth l i))), (20, .slice p l.length cap), (21, .int .i64 ((l.length : Int))), (22, .int .i64 ((j : Int))), (23, .bool false), (46, .bool (stayB l i j)), (47, .bool false), (48, .slice q r.length qc), (49, .int .i64 ((r.length : Int))), (50, .int .i64 ((at' : Int))), (51, .bool (decide ((at' : Int) > 0))), (52, .bool false), (53, undef), (54, undef), (55, undef), (56, undef), (57, undef), (58, undef), (59, undef), (60, undef), (61, .bool false), (64, .slice (some ⟨b12, 0, none⟩) 0 0), (65, .slice q r.length qc), (66, .int .i64 ((at' : Int))), (67, .slice q ((r.take at').length) qc), (68, .slice p16 ((r.take at').length) cap16), (69, .agg #[.bool (((nth l i).ip).six), .int .u8 ((((nth l i).ip).b0.toNat : Int)), .int .u8 ((((nth l i).ip).b1.toNat : Int)), .int .u8 ((((nth l i).ip).b2.toNat : Int)), .int .u8 ((((nth l i).ip).b3.toNat : Int)), .int .u8 ((((nth l i).ip).b4.toNat : Int)), .int .u8 ((((nth l i).ip).b5.toNat : Int)), .int .u8 ((((nth l i).ip).b6.toNat : Int)), .int .u8 ((((nth l i).ip).b7.toNat : Int)), .int .u8 ((((nth l i).ip).b8.toNat : Int)), .int .u8 ((((nth l i).ip).b9.toNat : Int)), .int .u8 ((((nth l i).ip).b10.toNat : Int)), .int .u8 ((((nth l i).ip).b11.toNat : Int)), .int .u8 ((((nth l i).ip).b12.toNat : Int)), .int .u8 ((((nth l i).ip).b13.toNat : Int)), .int .u8 ((((nth l i).ip).b14.toNat : Int)), .int .u8 ((((nth l i).ip).b15.toNat : Int)), .int .i64 ((nth l i).port)]), (70, .slice (some ⟨b13, 0, none⟩) 1 1), (72, .slice q r.length qc), (73, .int .i64 ((at' : Int))), (74, .slice (subP q qc at' 18) ((r.drop at').length) (qc - at'))] ∧ Own W noX [.blk b13 (.cells #[.bool (((nth l i).ip).six), .int .u8 ((((nth l i).ip).b0.toNat : Int)), .int .u8 ((((nth l i).ip).b1.toNat : Int)), .int .u8 ((((nth l i).ip).b2.toNat : Int)), .int .u8 ((((nth l i).ip).b3.toNat : Int)), .int .u8 ((((nth l i).ip).b4.toNat : Int)), .int .u8 ((((nth l i).ip).b5.toNat : Int)), .int .u8 ((((nth l i).ip).b6.toNat : Int)), .int .u8 ((((nth l i).ip).b7.toNat : Int)), .int .u8 ((((nth l i).ip).b8.toNat : Int)), .int .u8 ((((nth l i).ip).b9.toNat : Int)), .int .u8 ((((nth l i).ip).b10.toNat : Int)), .int .u8 ((((nth l i).ip).b11.toNat : Int)), .int .u8 ((((nth l i).ip).b12.toNat : Int)), .int .u8 ((((nth l i).ip).b13.toNat : Int)), .int .u8 ((((nth l i).ip).b14.toNat : Int)), .int .u8 ((((nth l i).ip).b15.toNat : Int)), .int .i64 ((nth l i).port)] 68 (0, 0)), rowL ptL 18 68 p16 cap16 (r.take at'), .blk b2 (.cells #[.bool (((nth l i).ip).six), .int .u8 ((((nth l i).ip).b0.toNat : Int)), .int .u8 ((((nth l i).ip).b1.toNat : Int)), .int .u8 ((((nth l i).ip).b2.toNat : Int)), .int .u8 ((((nth l i).ip).b3.toNat : Int)), .int .u8 ((((nth l i).ip).b4.toNat : Int)), .int .u8 ((((nth l i).ip).b5.toNat : Int)), .int .u8 ((((nth l i).ip).b6.toNat : Int)), .int .u8 ((((nth l i).ip).b7.toNat : Int)), .int .u8 ((((nth l i).ip).b8.toNat : Int)), .int .u8 ((((nth l i).ip).b9.toNat : Int)), .int .u8 ((((nth l i).ip).b10.toNat : Int)), .int .u8 ((((nth l i).ip).b11.toNat : Int)), .int .u8 ((((nth l i).ip).b12.toNat : Int)), .int .u8 ((((nth l i).ip).b13.toNat : Int)), .int .u8 ((((nth l i).ip).b14.toNat : Int)), .int .u8 ((((nth l i).ip).b15.toNat : Int)), .int .i64 ((nth l i).port)] 68 (0, 0)), rowL ptL 18 68 q qc r] Wx) (fuel := 3) (listed := #[true, true, true, true, true, true, true, false, true, true, true, false, false]) ?_ ?_
     ·
      clear hF hO; rintro a W39 ⟨b12, b13, p16, cap16, hF, hO⟩
      refine A_one (i := 7) (listed' := #[true, true, true, true, true, true, true, true, true, true, true, false, false]) (by kernel_rfl) rfl (by kernel_rfl) ?_
      obtain ⟨p17, cap17, W40, hap, hO1, -⟩ := run_append_row (P := Tryz.prog) (ty := 92) (t := 92) (z := .agg #[.bool false, .int .u8 0, .int .u8 0, .int .u8 0, .int .u8 0, .int .u8 0, .int .u8 0, .int .u8 0, .int .u8 0, .int .u8 0, .int .u8 0, .int .u8 0, .int .u8 0, .int .u8 0, .int .u8 0, .int .u8 0, .int .u8 0, .int .i64 0]) (k := 18) (bytes := 32) (q := some ⟨b13, 0, none⟩) (ys := ([(nth l i)] : List Pt)) (cq := 1) hO (.tail (.head _)) (by kernel_rfl) (by kernel_rfl) (by kernel_rfl) (by decide) (fun _ => rfl) (fun _ => rfl) (SlAt.blk hO List.mem_cons_self (by kernel_rfl)) (by (try simp only [List.length_append, List.length_take, List.length_drop, List.length_cons, List.length_nil, maxLen]); omega) (by (try simp only [List.length_append, List.length_take, List.length_drop, List.length_cons, List.length_nil, maxLen]); omega)
      refine OpK.valW hF (by kernel_rfl) (by kernel_rfl) (x_app hap rfl (by kernel_rfl) (by kernel_rfl) rfl) (by kernel_rfl) ?_
      clear hap hF; intro a hF; replace hO := hO1; clear hO1
      refine ⟨hO.sub (.cons _ (.cons _ (.cons_cons _ (.cons_cons _ (List.nil_sublist _))))), ?_⟩
      refine A_one (i := 11) (listed' := #[true, true, true, true, true, true, true, true, true, true, true, true, false]) (by kernel_rfl) rfl (by kernel_rfl) ?_
      obtain ⟨p18, cap18, W41, hap, hO1, -⟩ := run_append_row (P := Tryz.prog) (ty := 92) (t := 92) (z := .agg #[.bool false, .int .u8 0, .int .u8 0, .int .u8 0, .int .u8 0, .int .u8 0, .int .u8 0, .int .u8 0, .int .u8 0, .int .u8 0, .int .u8 0, .int .u8 0, .int .u8 0, .int .u8 0, .int .u8 0, .int .u8 0, .int .u8 0, .int .i64 0]) (k := 18) (bytes := 32) (q := subP q qc at' 18) (ys := r.drop at') (cq := qc - at') hO (.head _) (by kernel_rfl) (by kernel_rfl) (by kernel_rfl) (by decide) (fun _ => rfl) (fun _ => rfl) (SlAt.dropL (k := 18) (hO.row (List.mem_cons_of_mem _ (List.mem_cons_of_mem _ (List.mem_cons_of_mem _ List.mem_cons_self)))) (fun _ => rfl) qc at' (by have := (hO.rowCap (List.mem_cons_of_mem _ (List.mem_cons_of_mem _ (List.mem_cons_of_mem _ List.mem_cons_self)))); (try simp only [List.length_take]); omega)) (by (try simp only [List.length_append, List.length_take, List.length_drop, List.length_cons, List.length_nil, maxLen]); omega) (by (try simp only [List.length_append, List.length_take, List.length_drop, List.length_cons, List.length_nil, maxLen]); omega)
      refine OpK.valW hF (by kernel_rfl) (by kernel_rfl) (x_app hap rfl (by kernel_rfl) (by kernel_rfl) rfl) (by kernel_rfl) ?_
      clear hap hF; intro a hF; replace hO := hO1; clear hO1
      refine ⟨hO.sub (.cons _ (.cons _ (.cons_cons _ (.cons_cons _ (List.nil_sublist _))))), ?_⟩
      have hS := hO.sub (.cons _ (.cons _ (.cons_cons _ (.cons_cons _ (List.nil_sublist _)))))
      refine Tk 12 rfl hF (.slice p18 ((((r.take at') ++ ([(nth l i)] : List Pt)) ++ (r.drop at')).length) cap18) (fun Wx _ => by kernel_rfl) hS ?_; clear hF; intro a hF
      refine A_done (by kernel_rfl) ?_
      refine block_normal ?_
      refine hK7 _ _ ?_
      refine wp_region_lit ?_
      refine Vr hF (.int .i64 ((i : Int) + 1)) (x_int (x := IntKind.i64.wrap ((i : Int) + 1)) (i64In (by omega) (by omega)) (by kernel_rfl)) ?_; clear hF; intro a hF
      refine Vp hF (.int .i64 ((i : Int) + 1)) ?_; clear hF; intro a hF
      refine L_nil ?_
      refine hK_1 ((i + 1, p18, cap18, ((r.take at') ++ ([(nth l i)] : List Pt)) ++ (r.drop at'))) _ _ (by first | omega | (dsimp only; omega)) ⟨(by have hps := posL_at hI2.1 hI2.2 (by first | exact .inl (by assumption) | exact .inr (by assumption)); exact ⟨by omega, rf_yes hI.2.1 ((stay_end (by omega) hJ).1 (by assumption)) (by omega) hps, by dsimp only; simp only [List.length_append, List.length_take, List.length_drop, List.length_cons, List.length_nil]; omega⟩), ?_, ?_⟩
      · exact hF.restrict ⟨(by kernel_rfl), (by kernel_rfl), (congrArg some (by first | rfl | exact congrArg (Value.int _) (by omega))), (by kernel_rfl), (by kernel_rfl), (congrArg some (by first | rfl | exact congrArg (Value.int _) (by omega))), trivial⟩
      · exact hO.sub (.cons_cons _ (List.nil_sublist _))
     ·
      intro hcut5
      refine A_many [0, 6] (by kernel_rfl) rfl ⟨?_, ?_, trivial⟩
      ·
       refine A_br (listed' := #[true, true, true, true, false, true, false, false, true, true, true, false, false]) rfl (by kernel_rfl) ?_
       refine OpK.new hF hO (by kernel_rfl) (by kernel_rfl) (vf := fun b => .slice (some ⟨b, 0, none⟩) 0 0) (ob := .cells #[] 68) (by kernel_rfl) (by kernel_rfl) ?_
       clear hF hO; intro b14 W42 a hO hF
       refine ⟨hO.sub (.cons _ (.cons_cons _ (.cons_cons _ (List.nil_sublist _)))), ?_⟩
       refine A_cut (fun a Wx => ∃ (b15 : Nat) (p19 : Option Addr) (cap19 : Nat), Fr 78 a [(0, .slice p l.length cap), (2, .slice none 0 0), (3, .slice q r.length qc), (4, .int .i64 ((i : Int))), (5, .pointer (some ⟨b2, 0, none⟩)), (6, .bool (stayB l i j)), (9, .int .i64 ((at' : Int))), (11, .slice p l.length cap), (12, .int .i64 ((l.length : Int))), (13, .int .i64 ((i : Int))), (14, .bool true), (15, .int .i64 ((i : Int))), (16, .pointer (some ⟨(ab p), ao p + i * 18, none⟩)), (17, ptV (nth l i)), (18, .agg #[.bool (((nth l i).ip).six), .int .u8 ((((nth l i).ip).b0.toNat : Int)), .int .u8 ((((nth l i).ip).b1.toNat : Int)), .int .u8 ((((nth l i).ip).b2.toNat : Int)), .int .u8 ((((nth l i).ip).b3.toNat : Int)), .int .u8 ((((nth l i).ip).b4.toNat : Int)), .int .u8 ((((nth l i).ip).b5.toNat : Int)), .int .u8 ((((nth l i).ip).b6.toNat : Int)), .int .u8 ((((nth l i).ip).b7.toNat : Int)), .int .u8 ((((nth l i).ip).b8.toNat : Int)), .int .u8 ((((nth l i).ip).b9.toNat : Int)), .int .u8 ((((nth l i).ip).b10.toNat : Int)), .int .u8 ((((nth l i).ip).b11.toNat : Int)), .int .u8 ((((nth l i).ip).b12.toNat : Int)), .int .u8 ((((nth l i).ip).b13.toNat : Int)), .int .u8 ((((nth l i).ip).b14.toNat : Int)), .int .u8 ((((nth l i).ip).b15.toNat : Int)), .int .i64 ((nth l i).port)]), (19, .bool (rightCd (nth l i))), (20, .slice p l.length cap), (21, .int .i64 ((l.length : Int))), (22, .int .i64 ((j : Int))), (23, .bool false), (46, .bool (stayB l i j)), (47, .bool false), (48, .slice q r.length qc), (49, .int .i64 ((r.length : Int))), (50, .int .i64 ((at' : Int))), (51, .bool (decide ((at' : Int) > 0))), (52, .bool false), (53, undef), (54, undef), (55, undef), (56, undef), (57, undef), (58, undef), (59, undef), (60, undef), (61, .bool false), (64, .slice (some ⟨b14, 0, none⟩) 0 0), (65, .slice q r.length qc), (66, .int .i64 ((at' : Int))), (67, .slice q ((r.take at').length) qc), (68, .slice p19 ((r.take at').length) cap19), (69, .agg #[.bool (((nth l i).ip).six), .int .u8 ((((nth l i).ip).b0.toNat : Int)), .int .u8 ((((nth l i).ip).b1.toNat : Int)), .int .u8 ((((nth l i).ip).b2.toNat : Int)), .int .u8 ((((nth l i).ip).b3.toNat : Int)), .int .u8 ((((nth l i).ip).b4.toNat : Int)), .int .u8 ((((nth l i).ip).b5.toNat : Int)), .int .u8 ((((nth l i).ip).b6.toNat : Int)), .int .u8 ((((nth l i).ip).b7.toNat : Int)), .int .u8 ((((nth l i).ip).b8.toNat : Int)), .int .u8 ((((nth l i).ip).b9.toNat : Int)), .int .u8 ((((nth l i).ip).b10.toNat : Int)), .int .u8 ((((nth l i).ip).b11.toNat : Int)), .int .u8 ((((nth l i).ip).b12.toNat : Int)), .int .u8 ((((nth l i).ip).b13.toNat : Int)), .int .u8 ((((nth l i).ip).b14.toNat : Int)), .int .u8 ((((nth l i).ip).b15.toNat : Int)), .int .i64 ((nth l i).port)]), (70, .slice (some ⟨b15, 0, none⟩) 1 1), (72, .slice q r.length qc), (73, .int .i64 ((at' : Int))), (74, .slice (subP q qc at' 18) ((r.drop at').length) (qc - at'))] ∧ Own W noX [.blk b15 (.cells #[.bool (((nth l i).ip).six), .int .u8 ((((nth l i).ip).b0.toNat : Int)), .int .u8 ((((nth l i).ip).b1.toNat : Int)), .int .u8 ((((nth l i).ip).b2.toNat : Int)), .int .u8 ((((nth l i).ip).b3.toNat : Int)), .int .u8 ((((nth l i).ip).b4.toNat : Int)), .int .u8 ((((nth l i).ip).b5.toNat : Int)), .int .u8 ((((nth l i).ip).b6.toNat : Int)), .int .u8 ((((nth l i).ip).b7.toNat : Int)), .int .u8 ((((nth l i).ip).b8.toNat : Int)), .int .u8 ((((nth l i).ip).b9.toNat : Int)), .int .u8 ((((nth l i).ip).b10.toNat : Int)), .int .u8 ((((nth l i).ip).b11.toNat : Int)), .int .u8 ((((nth l i).ip).b12.toNat : Int)), .int .u8 ((((nth l i).ip).b13.toNat : Int)), .int .u8 ((((nth l i).ip).b14.toNat : Int)), .int .u8 ((((nth l i).ip).b15.toNat : Int)), .int .i64 ((nth l i).port)] 68 (0, 0)), rowL ptL 18 68 p19 cap19 (r.take at'), .blk b2 (.cells #[.bool (((nth l i).ip).six), .int .u8 ((((nth l i).ip).b0.toNat : Int)), .int .u8 ((((nth l i).ip).b1.toNat : Int)), .int .u8 ((((nth l i).ip).b2.toNat : Int)), .int .u8 ((((nth l i).ip).b3.toNat : Int)), .int .u8 ((((nth l i).ip).b4.toNat : Int)), .int .u8 ((((nth l i).ip).b5.toNat : Int)), .int .u8 ((((nth l i).ip).b6.toNat : Int)), .int .u8 ((((nth l i).ip).b7.toNat : Int)), .int .u8 ((((nth l i).ip).b8.toNat : Int)), .int .u8 ((((nth l i).ip).b9.toNat : Int)), .int .u8 ((((nth l i).ip).b10.toNat : Int)), .int .u8 ((((nth l i).ip).b11.toNat : Int)), .int .u8 ((((nth l i).ip).b12.toNat : Int)), .int .u8 ((((nth l i).ip).b13.toNat : Int)), .int .u8 ((((nth l i).ip).b14.toNat : Int)), .int .u8 ((((nth l i).ip).b15.toNat : Int)), .int .i64 ((nth l i).port)] 68 (0, 0)), rowL ptL 18 68 q qc r] Wx) (fuel := 3) (listed := #[true, true, true, true, true, true, true, false, true, true, true, false, false]) ?_ ?_
       ·
        clear hF hO; rintro a W45 ⟨b15, p19, cap19, hF, hO⟩
        refine A_one (i := 7) (listed' := #[true, true, true, true, true, true, true, true, true, true, true, false, false]) (by kernel_rfl) rfl (by kernel_rfl) ?_
        obtain ⟨p20, cap20, W46, hap, hO1, -⟩ := run_append_row (P := Tryz.prog) (ty := 92) (t := 92) (z := .agg #[.bool false, .int .u8 0, .int .u8 0, .int .u8 0, .int .u8 0, .int .u8 0, .int .u8 0, .int .u8 0, .int .u8 0, .int .u8 0, .int .u8 0, .int .u8 0, .int .u8 0, .int .u8 0, .int .u8 0, .int .u8 0, .int .u8 0, .int .i64 0]) (k := 18) (bytes := 32) (q := some ⟨b15, 0, none⟩) (ys := ([(nth l i)] : List Pt)) (cq := 1) hO (.tail (.head _)) (by kernel_rfl) (by kernel_rfl) (by kernel_rfl) (by decide) (fun _ => rfl) (fun _ => rfl) (SlAt.blk hO List.mem_cons_self (by kernel_rfl)) (by (try simp only [List.length_append, List.length_take, List.length_drop, List.length_cons, List.length_nil, maxLen]); omega) (by (try simp only [List.length_append, List.length_take, List.length_drop, List.length_cons, List.length_nil, maxLen]); omega)
        refine OpK.valW hF (by kernel_rfl) (by kernel_rfl) (x_app hap rfl (by kernel_rfl) (by kernel_rfl) rfl) (by kernel_rfl) ?_
        clear hap hF; intro a hF; replace hO := hO1; clear hO1
        refine ⟨hO.sub (.cons _ (.cons _ (.cons_cons _ (.cons_cons _ (List.nil_sublist _))))), ?_⟩
        refine A_one (i := 11) (listed' := #[true, true, true, true, true, true, true, true, true, true, true, true, false]) (by kernel_rfl) rfl (by kernel_rfl) ?_
        obtain ⟨p21, cap21, W47, hap, hO1, -⟩ := run_append_row (P := Tryz.prog) (ty := 92) (t := 92) (z := .agg #[.bool false, .int .u8 0, .int .u8 0, .int .u8 0, .int .u8 0, .int .u8 0, .int .u8 0, .int .u8 0, .int .u8 0, .int .u8 0, .int .u8 0, .int .u8 0, .int .u8 0, .int .u8 0, .int .u8 0, .int .u8 0, .int .u8 0, .int .i64 0]) (k := 18) (bytes := 32) (q := subP q qc at' 18) (ys := r.drop at') (cq := qc - at') hO (.head _) (by kernel_rfl) (by kernel_rfl) (by kernel_rfl) (by decide) (fun _ => rfl) (fun _ => rfl) (SlAt.dropL (k := 18) (hO.row (List.mem_cons_of_mem _ (List.mem_cons_of_mem _ (List.mem_cons_of_mem _ List.mem_cons_self)))) (fun _ => rfl) qc at' (by have := (hO.rowCap (List.mem_cons_of_mem _ (List.mem_cons_of_mem _ (List.mem_cons_of_mem _ List.mem_cons_self)))); (try simp only [List.length_take]); omega)) (by (try simp only [List.length_append, List.length_take, List.length_drop, List.length_cons, List.length_nil, maxLen]); omega) (by (try simp only [List.length_append, List.length_take, List.length_drop, List.length_cons, List.length_nil, maxLen]); omega)
        refine OpK.valW hF (by kernel_rfl) (by kernel_rfl) (x_app hap rfl (by kernel_rfl) (by kernel_rfl) rfl) (by kernel_rfl) ?_
        clear hap hF; intro a hF; replace hO := hO1; clear hO1
        refine ⟨hO.sub (.cons _ (.cons _ (.cons_cons _ (.cons_cons _ (List.nil_sublist _))))), ?_⟩
        have hS := hO.sub (.cons _ (.cons _ (.cons_cons _ (.cons_cons _ (List.nil_sublist _)))))
        refine Tk 12 rfl hF (.slice p21 ((((r.take at') ++ ([(nth l i)] : List Pt)) ++ (r.drop at')).length) cap21) (fun Wx _ => by kernel_rfl) hS ?_; clear hF; intro a hF
        refine A_done (by kernel_rfl) ?_
        refine block_normal ?_
        refine hK7 _ _ ?_
        refine wp_region_lit ?_
        refine Vr hF (.int .i64 ((i : Int) + 1)) (x_int (x := IntKind.i64.wrap ((i : Int) + 1)) (i64In (by omega) (by omega)) (by kernel_rfl)) ?_; clear hF; intro a hF
        refine Vp hF (.int .i64 ((i : Int) + 1)) ?_; clear hF; intro a hF
        refine L_nil ?_
        refine hK_1 ((i + 1, p21, cap21, ((r.take at') ++ ([(nth l i)] : List Pt)) ++ (r.drop at'))) _ _ (by first | omega | (dsimp only; omega)) ⟨(by have hps := posL_at hI2.1 hI2.2 (by first | exact .inl (by assumption) | exact .inr (by assumption)); exact ⟨by omega, rf_yes hI.2.1 ((stay_end (by omega) hJ).1 (by assumption)) (by omega) hps, by dsimp only; simp only [List.length_append, List.length_take, List.length_drop, List.length_cons, List.length_nil]; omega⟩), ?_, ?_⟩
        · exact hF.restrict ⟨(by kernel_rfl), (by kernel_rfl), (congrArg some (by first | rfl | exact congrArg (Value.int _) (by omega))), (by kernel_rfl), (by kernel_rfl), (congrArg some (by first | rfl | exact congrArg (Value.int _) (by omega))), trivial⟩
        · exact hO.sub (.cons_cons _ (List.nil_sublist _))
       ·
        intro hcut6
        refine A_many [4, 6] (by kernel_rfl) rfl ⟨?_, ?_, trivial⟩
        ·
         refine A_br (listed' := #[true, true, true, true, true, true, false, false, true, true, true, false, false]) rfl (by kernel_rfl) ?_
         replace hO := hO.asRow (k := 18) (cap := 0) ptL ([] : List Pt) (.head _) (by decide) (by kernel_rfl) (by decide) (by kernel_rfl)
         obtain ⟨p22, cap22, W48, hap, hO1, -⟩ := run_append_row (P := Tryz.prog) (ty := 92) (t := 92) (z := .agg #[.bool false, .int .u8 0, .int .u8 0, .int .u8 0, .int .u8 0, .int .u8 0, .int .u8 0, .int .u8 0, .int .u8 0, .int .u8 0, .int .u8 0, .int .u8 0, .int .u8 0, .int .u8 0, .int .u8 0, .int .u8 0, .int .u8 0, .int .i64 0]) (k := 18) (bytes := 32) (q := q) (ys := r.take at') (cq := qc) hO (.head _) (by kernel_rfl) (by kernel_rfl) (by kernel_rfl) (by decide) (fun _ => rfl) (fun _ => rfl) (SlAt.takeL (k := 18) (hO.row (List.mem_cons_of_mem _ (List.mem_cons_of_mem _ List.mem_cons_self))) (fun _ => rfl) at') (by (try simp only [List.length_append, List.length_take, List.length_drop, List.length_cons, List.length_nil, maxLen]); omega) (by (try simp only [List.length_append, List.length_take, List.length_drop, List.length_cons, List.length_nil, maxLen]); omega)
         refine OpK.valW hF (by kernel_rfl) (by kernel_rfl) (x_app hap rfl (by kernel_rfl) (by kernel_rfl) rfl) (by kernel_rfl) ?_
         clear hap hF; intro a hF; replace hO := hO1; clear hO1
         refine ⟨hO.sub (.cons _ (.cons_cons _ (.cons_cons _ (List.nil_sublist _)))), ?_⟩
         refine A_one (i := 6) (listed' := #[true, true, true, true, true, true, true, false, true, true, true, false, false]) (by kernel_rfl) rfl (by kernel_rfl) ?_
         refine OpK.new hF hO (by kernel_rfl) (by kernel_rfl) (vf := fun b => .slice (some ⟨b, 0, none⟩) 1 1) (ob := .cells #[.bool (((nth l i).ip).six), .int .u8 ((((nth l i).ip).b0.toNat : Int)), .int .u8 ((((nth l i).ip).b1.toNat : Int)), .int .u8 ((((nth l i).ip).b2.toNat : Int)), .int .u8 ((((nth l i).ip).b3.toNat : Int)), .int .u8 ((((nth l i).ip).b4.toNat : Int)), .int .u8 ((((nth l i).ip).b5.toNat : Int)), .int .u8 ((((nth l i).ip).b6.toNat : Int)), .int .u8 ((((nth l i).ip).b7.toNat : Int)), .int .u8 ((((nth l i).ip).b8.toNat : Int)), .int .u8 ((((nth l i).ip).b9.toNat : Int)), .int .u8 ((((nth l i).ip).b10.toNat : Int)), .int .u8 ((((nth l i).ip).b11.toNat : Int)), .int .u8 ((((nth l i).ip).b12.toNat : Int)), .int .u8 ((((nth l i).ip).b13.toNat : Int)), .int .u8 ((((nth l i).ip).b14.toNat : Int)), .int .u8 ((((nth l i).ip).b15.toNat : Int)), .int .i64 ((nth l i).port)] 68) (by kernel_rfl) (by kernel_rfl) ?_
         clear hF hO; intro b16 W49 a hO hF
         refine ⟨hO.sub (.cons _ (.cons _ (.cons_cons _ (.cons_cons _ (List.nil_sublist _))))), ?_⟩
         refine A_one (i := 7) (listed' := #[true, true, true, true, true, true, true, true, true, true, true, false, false]) (by kernel_rfl) rfl (by kernel_rfl) ?_
         obtain ⟨p23, cap23, W50, hap, hO1, -⟩ := run_append_row (P := Tryz.prog) (ty := 92) (t := 92) (z := .agg #[.bool false, .int .u8 0, .int .u8 0, .int .u8 0, .int .u8 0, .int .u8 0, .int .u8 0, .int .u8 0, .int .u8 0, .int .u8 0, .int .u8 0, .int .u8 0, .int .u8 0, .int .u8 0, .int .u8 0, .int .u8 0, .int .u8 0, .int .i64 0]) (k := 18) (bytes := 32) (q := some ⟨b16, 0, none⟩) (ys := ([(nth l i)] : List Pt)) (cq := 1) hO (.tail (.head _)) (by kernel_rfl) (by kernel_rfl) (by kernel_rfl) (by decide) (fun _ => rfl) (fun _ => rfl) (SlAt.blk hO List.mem_cons_self (by kernel_rfl)) (by (try simp only [List.length_append, List.length_take, List.length_drop, List.length_cons, List.length_nil, maxLen]); omega) (by (try simp only [List.length_append, List.length_take, List.length_drop, List.length_cons, List.length_nil, maxLen]); omega)
         refine OpK.valW hF (by kernel_rfl) (by kernel_rfl) (x_app hap rfl (by kernel_rfl) (by kernel_rfl) rfl) (by kernel_rfl) ?_
         clear hap hF; intro a hF; replace hO := hO1; clear hO1
         refine ⟨hO.sub (.cons _ (.cons _ (.cons_cons _ (.cons_cons _ (List.nil_sublist _))))), ?_⟩
         refine A_one (i := 11) (listed' := #[true, true, true, true, true, true, true, true, true, true, true, true, false]) (by kernel_rfl) rfl (by kernel_rfl) ?_
         obtain ⟨p24, cap24, W51, hap, hO1, -⟩ := run_append_row (P := Tryz.prog) (ty := 92) (t := 92) (z := .agg #[.bool false, .int .u8 0, .int .u8 0, .int .u8 0, .int .u8 0, .int .u8 0, .int .u8 0, .int .u8 0, .int .u8 0, .int .u8 0, .int .u8 0, .int .u8 0, .int .u8 0, .int .u8 0, .int .u8 0, .int .u8 0, .int .u8 0, .int .i64 0]) (k := 18) (bytes := 32) (q := subP q qc at' 18) (ys := r.drop at') (cq := qc - at') hO (.head _) (by kernel_rfl) (by kernel_rfl) (by kernel_rfl) (by decide) (fun _ => rfl) (fun _ => rfl) (SlAt.dropL (k := 18) (hO.row (List.mem_cons_of_mem _ (List.mem_cons_of_mem _ (List.mem_cons_of_mem _ List.mem_cons_self)))) (fun _ => rfl) qc at' (by have := (hO.rowCap (List.mem_cons_of_mem _ (List.mem_cons_of_mem _ (List.mem_cons_of_mem _ List.mem_cons_self)))); (try simp only [List.length_take]); omega)) (by (try simp only [List.length_append, List.length_take, List.length_drop, List.length_cons, List.length_nil, maxLen]); omega) (by (try simp only [List.length_append, List.length_take, List.length_drop, List.length_cons, List.length_nil, maxLen]); omega)
         refine OpK.valW hF (by kernel_rfl) (by kernel_rfl) (x_app hap rfl (by kernel_rfl) (by kernel_rfl) rfl) (by kernel_rfl) ?_
         clear hap hF; intro a hF; replace hO := hO1; clear hO1
         refine ⟨hO.sub (.cons _ (.cons _ (.cons_cons _ (.cons_cons _ (List.nil_sublist _))))), ?_⟩
         have hS := hO.sub (.cons _ (.cons _ (.cons_cons _ (.cons_cons _ (List.nil_sublist _)))))
         refine Tk 12 rfl hF (.slice p24 ((((r.take at') ++ ([(nth l i)] : List Pt)) ++ (r.drop at')).length) cap24) (fun Wx _ => by kernel_rfl) hS ?_; clear hF; intro a hF
         refine A_done (by kernel_rfl) ?_
         refine block_normal ?_
         refine hK7 _ _ ?_
         refine wp_region_lit ?_
         refine Vr hF (.int .i64 ((i : Int) + 1)) (x_int (x := IntKind.i64.wrap ((i : Int) + 1)) (i64In (by omega) (by omega)) (by kernel_rfl)) ?_; clear hF; intro a hF
         refine Vp hF (.int .i64 ((i : Int) + 1)) ?_; clear hF; intro a hF
         refine L_nil ?_
         refine hK_1 ((i + 1, p24, cap24, ((r.take at') ++ ([(nth l i)] : List Pt)) ++ (r.drop at'))) _ _ (by first | omega | (dsimp only; omega)) ⟨(by have hps := posL_at hI2.1 hI2.2 (by first | exact .inl (by assumption) | exact .inr (by assumption)); exact ⟨by omega, rf_yes hI.2.1 ((stay_end (by omega) hJ).1 (by assumption)) (by omega) hps, by dsimp only; simp only [List.length_append, List.length_take, List.length_drop, List.length_cons, List.length_nil]; omega⟩), ?_, ?_⟩
         · exact hF.restrict ⟨(by kernel_rfl), (by kernel_rfl), (congrArg some (by first | rfl | exact congrArg (Value.int _) (by omega))), (by kernel_rfl), (by kernel_rfl), (congrArg some (by first | rfl | exact congrArg (Value.int _) (by omega))), trivial⟩
         · exact hO.sub (.cons_cons _ (List.nil_sublist _))
        ·
         refine A_br (listed' := #[true, true, true, true, false, true, true, false, true, true, true, false, false]) rfl (by kernel_rfl) ?_
         refine OpK.new hF hO (by kernel_rfl) (by kernel_rfl) (vf := fun b => .slice (some ⟨b, 0, none⟩) 1 1) (ob := .cells #[.bool (((nth l i).ip).six), .int .u8 ((((nth l i).ip).b0.toNat : Int)), .int .u8 ((((nth l i).ip).b1.toNat : Int)), .int .u8 ((((nth l i).ip).b2.toNat : Int)), .int .u8 ((((nth l i).ip).b3.toNat : Int)), .int .u8 ((((nth l i).ip).b4.toNat : Int)), .int .u8 ((((nth l i).ip).b5.toNat : Int)), .int .u8 ((((nth l i).ip).b6.toNat : Int)), .int .u8 ((((nth l i).ip).b7.toNat : Int)), .int .u8 ((((nth l i).ip).b8.toNat : Int)), .int .u8 ((((nth l i).ip).b9.toNat : Int)), .int .u8 ((((nth l i).ip).b10.toNat : Int)), .int .u8 ((((nth l i).ip).b11.toNat : Int)), .int .u8 ((((nth l i).ip).b12.toNat : Int)), .int .u8 ((((nth l i).ip).b13.toNat : Int)), .int .u8 ((((nth l i).ip).b14.toNat : Int)), .int .u8 ((((nth l i).ip).b15.toNat : Int)), .int .i64 ((nth l i).port)] 68) (by kernel_rfl) (by kernel_rfl) ?_
         clear hF hO; intro b17 W52 a hO hF
         refine ⟨hO.sub (.cons _ (.cons _ (.cons_cons _ (.cons_cons _ (List.nil_sublist _))))), ?_⟩
         refine A_one (i := 4) (listed' := #[true, true, true, true, true, true, true, false, true, true, true, false, false]) (by kernel_rfl) rfl (by kernel_rfl) ?_
         replace hO := hO.asRow (k := 18) (cap := 0) ptL ([] : List Pt) (.tail (.head _)) (by decide) (by kernel_rfl) (by decide) (by kernel_rfl)
         obtain ⟨p25, cap25, W53, hap, hO1, -⟩ := run_append_row (P := Tryz.prog) (ty := 92) (t := 92) (z := .agg #[.bool false, .int .u8 0, .int .u8 0, .int .u8 0, .int .u8 0, .int .u8 0, .int .u8 0, .int .u8 0, .int .u8 0, .int .u8 0, .int .u8 0, .int .u8 0, .int .u8 0, .int .u8 0, .int .u8 0, .int .u8 0, .int .u8 0, .int .i64 0]) (k := 18) (bytes := 32) (q := q) (ys := r.take at') (cq := qc) hO (.tail (.head _)) (by kernel_rfl) (by kernel_rfl) (by kernel_rfl) (by decide) (fun _ => rfl) (fun _ => rfl) (SlAt.takeL (k := 18) (hO.row (List.mem_cons_of_mem _ (List.mem_cons_of_mem _ (List.mem_cons_of_mem _ List.mem_cons_self)))) (fun _ => rfl) at') (by (try simp only [List.length_append, List.length_take, List.length_drop, List.length_cons, List.length_nil, maxLen]); omega) (by (try simp only [List.length_append, List.length_take, List.length_drop, List.length_cons, List.length_nil, maxLen]); omega)
         refine OpK.valW hF (by kernel_rfl) (by kernel_rfl) (x_app hap rfl (by kernel_rfl) (by kernel_rfl) rfl) (by kernel_rfl) ?_
         clear hap hF; intro a hF; replace hO := hO1; clear hO1
         refine ⟨hO.sub (.cons _ (.cons _ (.cons_cons _ (.cons_cons _ (List.nil_sublist _))))), ?_⟩
         refine A_one (i := 7) (listed' := #[true, true, true, true, true, true, true, true, true, true, true, false, false]) (by kernel_rfl) rfl (by kernel_rfl) ?_
         obtain ⟨p26, cap26, W54, hap, hO1, -⟩ := run_append_row (P := Tryz.prog) (ty := 92) (t := 92) (z := .agg #[.bool false, .int .u8 0, .int .u8 0, .int .u8 0, .int .u8 0, .int .u8 0, .int .u8 0, .int .u8 0, .int .u8 0, .int .u8 0, .int .u8 0, .int .u8 0, .int .u8 0, .int .u8 0, .int .u8 0, .int .u8 0, .int .u8 0, .int .i64 0]) (k := 18) (bytes := 32) (q := some ⟨b17, 0, none⟩) (ys := ([(nth l i)] : List Pt)) (cq := 1) hO (.head _) (by kernel_rfl) (by kernel_rfl) (by kernel_rfl) (by decide) (fun _ => rfl) (fun _ => rfl) (SlAt.blk hO (List.mem_cons_of_mem _ List.mem_cons_self) (by kernel_rfl)) (by (try simp only [List.length_append, List.length_take, List.length_drop, List.length_cons, List.length_nil, maxLen]); omega) (by (try simp only [List.length_append, List.length_take, List.length_drop, List.length_cons, List.length_nil, maxLen]); omega)
         refine OpK.valW hF (by kernel_rfl) (by kernel_rfl) (x_app hap rfl (by kernel_rfl) (by kernel_rfl) rfl) (by kernel_rfl) ?_
         clear hap hF; intro a hF; replace hO := hO1; clear hO1
         refine ⟨hO.sub (.cons _ (.cons _ (.cons_cons _ (.cons_cons _ (List.nil_sublist _))))), ?_⟩
         refine A_one (i := 11) (listed' := #[true, true, true, true, true, true, true, true, true, true, true, true, false]) (by kernel_rfl) rfl (by kernel_rfl) ?_
         obtain ⟨p27, cap27, W55, hap, hO1, -⟩ := run_append_row (P := Tryz.prog) (ty := 92) (t := 92) (z := .agg #[.bool false, .int .u8 0, .int .u8 0, .int .u8 0, .int .u8 0, .int .u8 0, .int .u8 0, .int .u8 0, .int .u8 0, .int .u8 0, .int .u8 0, .int .u8 0, .int .u8 0, .int .u8 0, .int .u8 0, .int .u8 0, .int .u8 0, .int .i64 0]) (k := 18) (bytes := 32) (q := subP q qc at' 18) (ys := r.drop at') (cq := qc - at') hO (.head _) (by kernel_rfl) (by kernel_rfl) (by kernel_rfl) (by decide) (fun _ => rfl) (fun _ => rfl) (SlAt.dropL (k := 18) (hO.row (List.mem_cons_of_mem _ (List.mem_cons_of_mem _ (List.mem_cons_of_mem _ List.mem_cons_self)))) (fun _ => rfl) qc at' (by have := (hO.rowCap (List.mem_cons_of_mem _ (List.mem_cons_of_mem _ (List.mem_cons_of_mem _ List.mem_cons_self)))); (try simp only [List.length_take]); omega)) (by (try simp only [List.length_append, List.length_take, List.length_drop, List.length_cons, List.length_nil, maxLen]); omega) (by (try simp only [List.length_append, List.length_take, List.length_drop, List.length_cons, List.length_nil, maxLen]); omega)
         refine OpK.valW hF (by kernel_rfl) (by kernel_rfl) (x_app hap rfl (by kernel_rfl) (by kernel_rfl) rfl) (by kernel_rfl) ?_
         clear hap hF; intro a hF; replace hO := hO1; clear hO1
         refine ⟨hO.sub (.cons _ (.cons _ (.cons_cons _ (.cons_cons _ (List.nil_sublist _))))), ?_⟩
         have hS := hO.sub (.cons _ (.cons _ (.cons_cons _ (.cons_cons _ (List.nil_sublist _)))))
         refine Tk 12 rfl hF (.slice p27 ((((r.take at') ++ ([(nth l i)] : List Pt)) ++ (r.drop at')).length) cap27) (fun Wx _ => by kernel_rfl) hS ?_; clear hF; intro a hF
         refine A_done (by kernel_rfl) ?_
         refine block_normal ?_
         refine hK7 _ _ ?_
         refine wp_region_lit ?_
         refine Vr hF (.int .i64 ((i : Int) + 1)) (x_int (x := IntKind.i64.wrap ((i : Int) + 1)) (i64In (by omega) (by omega)) (by kernel_rfl)) ?_; clear hF; intro a hF
         refine Vp hF (.int .i64 ((i : Int) + 1)) ?_; clear hF; intro a hF
         refine L_nil ?_
         refine hK_1 ((i + 1, p27, cap27, ((r.take at') ++ ([(nth l i)] : List Pt)) ++ (r.drop at'))) _ _ (by first | omega | (dsimp only; omega)) ⟨(by have hps := posL_at hI2.1 hI2.2 (by first | exact .inl (by assumption) | exact .inr (by assumption)); exact ⟨by omega, rf_yes hI.2.1 ((stay_end (by omega) hJ).1 (by assumption)) (by omega) hps, by dsimp only; simp only [List.length_append, List.length_take, List.length_drop, List.length_cons, List.length_nil]; omega⟩), ?_, ?_⟩
         · exact hF.restrict ⟨(by kernel_rfl), (by kernel_rfl), (congrArg some (by first | rfl | exact congrArg (Value.int _) (by omega))), (by kernel_rfl), (by kernel_rfl), (congrArg some (by first | rfl | exact congrArg (Value.int _) (by omega))), trivial⟩
         · exact hO.sub (.cons_cons _ (List.nil_sublist _))
      ·
       refine A_br (listed' := #[false, true, true, true, false, true, true, false, true, true, true, false, false]) rfl (by kernel_rfl) ?_
       refine OpK.new hF hO (by kernel_rfl) (by kernel_rfl) (vf := fun b => .slice (some ⟨b, 0, none⟩) 1 1) (ob := .cells #[.bool (((nth l i).ip).six), .int .u8 ((((nth l i).ip).b0.toNat : Int)), .int .u8 ((((nth l i).ip).b1.toNat : Int)), .int .u8 ((((nth l i).ip).b2.toNat : Int)), .int .u8 ((((nth l i).ip).b3.toNat : Int)), .int .u8 ((((nth l i).ip).b4.toNat : Int)), .int .u8 ((((nth l i).ip).b5.toNat : Int)), .int .u8 ((((nth l i).ip).b6.toNat : Int)), .int .u8 ((((nth l i).ip).b7.toNat : Int)), .int .u8 ((((nth l i).ip).b8.toNat : Int)), .int .u8 ((((nth l i).ip).b9.toNat : Int)), .int .u8 ((((nth l i).ip).b10.toNat : Int)), .int .u8 ((((nth l i).ip).b11.toNat : Int)), .int .u8 ((((nth l i).ip).b12.toNat : Int)), .int .u8 ((((nth l i).ip).b13.toNat : Int)), .int .u8 ((((nth l i).ip).b14.toNat : Int)), .int .u8 ((((nth l i).ip).b15.toNat : Int)), .int .i64 ((nth l i).port)] 68) (by kernel_rfl) (by kernel_rfl) ?_
       clear hF hO; intro b18 W56 a hO hF
       refine ⟨hO.sub (.cons _ (.cons_cons _ (.cons_cons _ (List.nil_sublist _)))), ?_⟩
       refine A_one (i := 0) (listed' := #[true, true, true, true, false, true, true, false, true, true, true, false, false]) (by kernel_rfl) rfl (by kernel_rfl) ?_
       refine OpK.new hF hO (by kernel_rfl) (by kernel_rfl) (vf := fun b => .slice (some ⟨b, 0, none⟩) 0 0) (ob := .cells #[] 68) (by kernel_rfl) (by kernel_rfl) ?_
       clear hF hO; intro b19 W57 a hO hF
       refine ⟨hO.sub (.cons _ (.cons _ (.cons_cons _ (.cons_cons _ (List.nil_sublist _))))), ?_⟩
       refine A_one (i := 4) (listed' := #[true, true, true, true, true, true, true, false, true, true, true, false, false]) (by kernel_rfl) rfl (by kernel_rfl) ?_
       replace hO := hO.asRow (k := 18) (cap := 0) ptL ([] : List Pt) (.head _) (by decide) (by kernel_rfl) (by decide) (by kernel_rfl)
       obtain ⟨p28, cap28, W58, hap, hO1, -⟩ := run_append_row (P := Tryz.prog) (ty := 92) (t := 92) (z := .agg #[.bool false, .int .u8 0, .int .u8 0, .int .u8 0, .int .u8 0, .int .u8 0, .int .u8 0, .int .u8 0, .int .u8 0, .int .u8 0, .int .u8 0, .int .u8 0, .int .u8 0, .int .u8 0, .int .u8 0, .int .u8 0, .int .u8 0, .int .i64 0]) (k := 18) (bytes := 32) (q := q) (ys := r.take at') (cq := qc) hO (.head _) (by kernel_rfl) (by kernel_rfl) (by kernel_rfl) (by decide) (fun _ => rfl) (fun _ => rfl) (SlAt.takeL (k := 18) (hO.row (List.mem_cons_of_mem _ (List.mem_cons_of_mem _ (List.mem_cons_of_mem _ List.mem_cons_self)))) (fun _ => rfl) at') (by (try simp only [List.length_append, List.length_take, List.length_drop, List.length_cons, List.length_nil, maxLen]); omega) (by (try simp only [List.length_append, List.length_take, List.length_drop, List.length_cons, List.length_nil, maxLen]); omega)
       refine OpK.valW hF (by kernel_rfl) (by kernel_rfl) (x_app hap rfl (by kernel_rfl) (by kernel_rfl) rfl) (by kernel_rfl) ?_
       clear hap hF; intro a hF; replace hO := hO1; clear hO1
       refine ⟨hO.sub (.cons _ (.cons _ (.cons_cons _ (.cons_cons _ (List.nil_sublist _))))), ?_⟩
       refine A_one (i := 7) (listed' := #[true, true, true, true, true, true, true, true, true, true, true, false, false]) (by kernel_rfl) rfl (by kernel_rfl) ?_
       obtain ⟨p29, cap29, W59, hap, hO1, -⟩ := run_append_row (P := Tryz.prog) (ty := 92) (t := 92) (z := .agg #[.bool false, .int .u8 0, .int .u8 0, .int .u8 0, .int .u8 0, .int .u8 0, .int .u8 0, .int .u8 0, .int .u8 0, .int .u8 0, .int .u8 0, .int .u8 0, .int .u8 0, .int .u8 0, .int .u8 0, .int .u8 0, .int .u8 0, .int .i64 0]) (k := 18) (bytes := 32) (q := some ⟨b18, 0, none⟩) (ys := ([(nth l i)] : List Pt)) (cq := 1) hO (.head _) (by kernel_rfl) (by kernel_rfl) (by kernel_rfl) (by decide) (fun _ => rfl) (fun _ => rfl) (SlAt.blk hO (List.mem_cons_of_mem _ List.mem_cons_self) (by kernel_rfl)) (by (try simp only [List.length_append, List.length_take, List.length_drop, List.length_cons, List.length_nil, maxLen]); omega) (by (try simp only [List.length_append, List.length_take, List.length_drop, List.length_cons, List.length_nil, maxLen]); omega)
       refine OpK.valW hF (by kernel_rfl) (by kernel_rfl) (x_app hap rfl (by kernel_rfl) (by kernel_rfl) rfl) (by kernel_rfl) ?_
       clear hap hF; intro a hF; replace hO := hO1; clear hO1
       refine ⟨hO.sub (.cons _ (.cons _ (.cons_cons _ (.cons_cons _ (List.nil_sublist _))))), ?_⟩
       refine A_one (i := 11) (listed' := #[true, true, true, true, true, true, true, true, true, true, true, true, false]) (by kernel_rfl) rfl (by kernel_rfl) ?_
       obtain ⟨p30, cap30, W60, hap, hO1, -⟩ := run_append_row (P := Tryz.prog) (ty := 92) (t := 92) (z := .agg #[.bool false, .int .u8 0, .int .u8 0, .int .u8 0, .int .u8 0, .int .u8 0, .int .u8 0, .int .u8 0, .int .u8 0, .int .u8 0, .int .u8 0, .int .u8 0, .int .u8 0, .int .u8 0, .int .u8 0, .int .u8 0, .int .u8 0, .int .i64 0]) (k := 18) (bytes := 32) (q := subP q qc at' 18) (ys := r.drop at') (cq := qc - at') hO (.head _) (by kernel_rfl) (by kernel_rfl) (by kernel_rfl) (by decide) (fun _ => rfl) (fun _ => rfl) (SlAt.dropL (k := 18) (hO.row (List.mem_cons_of_mem _ (List.mem_cons_of_mem _ (List.mem_cons_of_mem _ List.mem_cons_self)))) (fun _ => rfl) qc at' (by have := (hO.rowCap (List.mem_cons_of_mem _ (List.mem_cons_of_mem _ (List.mem_cons_of_mem _ List.mem_cons_self)))); (try simp only [List.length_take]); omega)) (by (try simp only [List.length_append, List.length_take, List.length_drop, List.length_cons, List.length_nil, maxLen]); omega) (by (try simp only [List.length_append, List.length_take, List.length_drop, List.length_cons, List.length_nil, maxLen]); omega)
       refine OpK.valW hF (by kernel_rfl) (by kernel_rfl) (x_app hap rfl (by kernel_rfl) (by kernel_rfl) rfl) (by kernel_rfl) ?_
       clear hap hF; intro a hF; replace hO := hO1; clear hO1
       refine ⟨hO.sub (.cons _ (.cons _ (.cons_cons _ (.cons_cons _ (List.nil_sublist _))))), ?_⟩
       have hS := hO.sub (.cons _ (.cons _ (.cons_cons _ (.cons_cons _ (List.nil_sublist _)))))
       refine Tk 12 rfl hF (.slice p30 ((((r.take at') ++ ([(nth l i)] : List Pt)) ++ (r.drop at')).length) cap30) (fun Wx _ => by kernel_rfl) hS ?_; clear hF; intro a hF
       refine A_done (by kernel_rfl) ?_
       refine block_normal ?_
       refine hK7 _ _ ?_
       refine wp_region_lit ?_
       refine Vr hF (.int .i64 ((i : Int) + 1)) (x_int (x := IntKind.i64.wrap ((i : Int) + 1)) (i64In (by omega) (by omega)) (by kernel_rfl)) ?_; clear hF; intro a hF
       refine Vp hF (.int .i64 ((i : Int) + 1)) ?_; clear hF; intro a hF
       refine L_nil ?_
       refine hK_1 ((i + 1, p30, cap30, ((r.take at') ++ ([(nth l i)] : List Pt)) ++ (r.drop at'))) _ _ (by first | omega | (dsimp only; omega)) ⟨(by have hps := posL_at hI2.1 hI2.2 (by first | exact .inl (by assumption) | exact .inr (by assumption)); exact ⟨by omega, rf_yes hI.2.1 ((stay_end (by omega) hJ).1 (by assumption)) (by omega) hps, by dsimp only; simp only [List.length_append, List.length_take, List.length_drop, List.length_cons, List.length_nil]; omega⟩), ?_, ?_⟩
       · exact hF.restrict ⟨(by kernel_rfl), (by kernel_rfl), (congrArg some (by first | rfl | exact congrArg (Value.int _) (by omega))), (by kernel_rfl), (by kernel_rfl), (congrArg some (by first | rfl | exact congrArg (Value.int _) (by omega))), trivial⟩
       · exact hO.sub (.cons_cons _ (List.nil_sublist _))
 ·
  replace hF := hF.know (d := 14) (v' := .bool false) (by kernel_rfl) (congrArg Value.bool (decide_eq_false q1))
  refine cond_f hF (by kernel_rfl) (by kernel_rfl) ?_
  refine wp_exit ?_
  refine then_exit ?_
  refine then_exit ?_
  refine inBlock_hit ?_
  refine hK3 _ _ ?_
  refine wp_seq_k fun K23 hK23 => ?_
  refine wp_region_lit ?_
  refine Vp hF (.slice q r.length qc) ?_; clear hF; intro a hF
  refine Vp hF (.slice q r.length qc) ?_; clear hF; intro a hF
  refine L_nil ?_
  refine hK23 _ _ ?_
  refine wp_ret ?_
  refine ret1 hF (v := .slice q r.length qc) rfl (resT (by kernel_rfl)) (by (have he := rf_end hI.2.1 (by omega) hI.1; subst he; exact ⟨_, _, rfl, hO.sub (.cons_cons _ (List.nil_sublist _))⟩)) .ret (.inl rfl)

end Go.Proofs.YthellfigmpjhlaaGreatDoor
