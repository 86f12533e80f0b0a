/- Merge of cidrs, walked. -/
import Derived.Test.YthellfigmpjhlaaGreatDoorMrgA
import Derived.Test.YthellfigmpjhlaaGreatDoorMerge
import Derived.Test.YthellfigmpjhlaaGreatDoorSort
import Derived.Test.YthellfigmpjhlaaGreatDoorShelfM
namespace Go.Proofs.YthellfigmpjhlaaGreatDoor
open Go Go.RowKit
set_option linter.unusedVariables false
set_option linter.unusedSimpArgs false
theorem sweep_next {S r : List Pt} {i : Nat} (h : r = (S.take i).foldl sweep1 []) (hi : i < S.length) : sweep1 r (nth S i) = (S.take (i + 1)).foldl sweep1 [] := by rw [take_one S i hi, List.foldl_append, ← h]; rfl
theorem sweep_len {r : List Pt} {c : Pt} : (sweep1 r c).length ≤ r.length + 1 := by unfold sweep1; split <;> simp
theorem sweep_yes {r : List Pt} {c : Pt} (h1 : (r.length : Int) > 0) (h2 : covCd (nth r ((r.length : Int) - 1).toNat) c = true) : r = sweep1 r c := by
  unfold sweep1
  rw [if_pos ⟨by omega, by unfold lastP; rw [show ((r.length : Int) - 1).toNat = r.length - 1 by omega] at h2; exact h2⟩]
theorem sweep_no {r : List Pt} {c : Pt} (h : ¬ (r.length : Int) > 0 ∨ covCd (nth r ((r.length : Int) - 1).toNat) c = false) : r ++ [c] = sweep1 r c := by
  unfold sweep1
  rw [if_neg]
  rintro ⟨h1, h2⟩
  rcases h with h | h
  · omega
  · unfold lastP at h2; rw [show ((r.length : Int) - 1).toNat = r.length - 1 by omega, h2] at h; cases h
theorem sw_round {S r r' : List Pt} {i : Nat} (hI : i ≤ S.length ∧ r = (S.take i).foldl sweep1 [] ∧ r.length ≤ i) (hi : i < S.length) (h : r' = sweep1 r (nth S i)) : i + 1 ≤ S.length ∧ r' = (S.take (i + 1)).foldl sweep1 [] ∧ r'.length ≤ i + 1 := by
  have hl := sweep_len (r := r) (c := nth S i)
  exact ⟨hi, by rw [h, sweep_next hI.2.1 hi], by rw [h]; omega⟩
def rowN (p : Option Addr) : Ext := ⟨fun b => p.map (·.block) = some b, false⟩
theorem startRowN {W : World} {c : Pt → List Value} {k cap : Nat} {e : TypeId} {p : Option Addr} {l : List Pt} (h : (rowL c k e p cap l).holds (heapF W)) : Own W (rowN p) [rowL c k e p cap l] W :=
  have h1 := Own.startRow h
  ⟨h1.os, h1.tape, h1.output, h1.size, h1.old, fun e => Bool.noConfusion e, h1.holds, h1.alive, h1.fresh, h1.disj⟩
theorem viaN {w0 W W' : World} {L K : List Chunk} {x d : Chunk} (h : Own w0 noX L W) (hp : Pick x L K) (k : Own W ⟨x.fp, false⟩ [d] W') : Own w0 noX (d :: K) W' := h.callX (D := [x]) hp.perm (fun b hb => ⟨x, List.mem_cons_self, hb⟩) (fun e => Bool.noConfusion e) k

set_option maxRecDepth 20000 in
theorem delete_cd (p : Option Addr) (cap : Nat) (l : List Pt) (W : World) (hr : (rowL ptL 18 68 p cap l).holds (heapF W)) (hn : l.length ≤ 1000) : Ret Tryz.prog 115 #[.slice p l.length cap, .func (.func 117) #[] #[]] W fun v W' => v = .slice p (l.filter rightCd).length cap ∧ Own W (rowN p) [rowL ptL 18 68 p cap (l.filter rightCd)] W' := by
 refine enter Tryz.func115 rfl (n := 42) rfl (by kernel_rfl) (E0 := [(1, .func (.func 117) #[] #[]), (0, .slice p l.length cap)]) (by kernel_rfl) ?_
 intro a hF; have hO := startRowN hr
 refine wp_seq_k fun K1 hK1 => ?_
 refine wp_region_lit ?_
 refine Vp hF (.slice none 0 0) ?_; clear hF; intro a hF
 refine L_nil ?_
 refine hK1 _ _ ?_
 refine wp_seq_k fun K2 hK2 => ?_
 refine wp_region_lit ?_
 refine Vp hF (.slice p l.length cap) ?_; clear hF; intro a hF
 refine Vp hF (.func (.func 117) #[] #[]) ?_; clear hF; intro a hF
 refine Lc hF (idx_right (p) cap l W (hO.row List.mem_cons_self) (by (first | omega | (simp only [List.length_set, List.length_take, List.length_drop, List.length_append, List.length_cons, List.length_nil]; done) | (simp only [List.length_set, List.length_take, List.length_drop, List.length_append, List.length_cons, List.length_nil]; omega) | (simp only [List.length_set, List.length_take, List.length_drop, List.length_append, List.length_cons, List.length_nil] at *; omega)))) ?_
 clear hF; rintro _ W1 a ⟨⟨z1, rfl, hz1⟩, hk⟩ hF
 replace hO := hO.call0 hk; clear hk
 have hzb : -1 ≤ z1 ∧ z1 < (l.length : Int) := by rcases hz1 with ⟨e, _⟩ | ⟨i0, e, e2, _⟩ <;> omega
 refine Vp hF (.int .i64 (z1)) ?_; clear hF; intro a hF
 refine L_nil ?_
 refine hK2 _ _ ?_
 refine wp_seq_k fun K3 hK3 => ?_
 refine wp_seq_k fun K4 hK4 => ?_
 refine wp_region_lit ?_
 refine Vp hF (.int .i64 (z1)) ?_; clear hF; intro a hF
 refine Vp hF (.bool (z1 == (-1))) ?_; clear hF; intro a hF
 refine L_nil ?_
 refine hK4 _ _ ?_
 by_cases q1 : z1 = -1
 ·
  replace hF := hF.know (d := 12) (v' := .bool true) (by kernel_rfl) (congrArg Value.bool (eqT q1))
  refine cond_t hF (by kernel_rfl) (by kernel_rfl) ?_
  refine wp_seq_k fun K5 hK5 => ?_
  refine wp_region_lit ?_
  refine Vp hF (.slice p l.length cap) ?_; clear hF; intro a hF
  refine Vp hF (.slice p l.length cap) ?_; clear hF; intro a hF
  refine L_nil ?_
  refine hK5 _ _ ?_
  refine wp_ret ?_
  refine then_ret ?_
  refine ret1 hF (v := .slice p l.length cap) rfl (resT (by kernel_rfl)) (by (have he := del_none (l := l) (by rcases hz1 with ⟨_, h⟩ | ⟨i0, e, _⟩; exact h; exfalso; omega); exact ⟨by rw [he], by rw [he]; exact hO.sub (.cons_cons _ (List.nil_sublist _))⟩)) .ret (.inl rfl)
 ·
  replace hF := hF.know (d := 12) (v' := .bool false) (by kernel_rfl) (congrArg Value.bool (eqF q1))
  refine cond_f hF (by kernel_rfl) (by kernel_rfl) ?_
  refine wp_skip ?_
  refine hK3 _ _ ?_
  refine wp_seq_k fun K6 hK6 => ?_
  refine wp_seq_k fun K7 hK7 => ?_
  refine wp_region_lit ?_
  refine Vp hF (.int .i64 (z1)) ?_; clear hF; intro a hF
  refine Vr hF (.int .i64 (z1 + 1)) (x_int (x := IntKind.i64.wrap (z1 + 1)) (i64In (by omega) (by omega)) (by kernel_rfl)) ?_; clear hF; intro a hF
  refine Vp hF (.int .i64 (z1 + 1)) ?_; clear hF; intro a hF
  refine L_nil ?_
  refine hK7 _ _ ?_
  refine wp_block ?_
  obtain ⟨i0, rfl, hi1, hi2, hi3⟩ : ∃ i0 : Nat, z1 = (i0 : Int) ∧ i0 < l.length ∧ rightCd (nth l i0) = false ∧ ∀ j, j < i0 → rightCd (nth l j) = true := by rcases hz1 with ⟨e, _⟩ | h; exact absurd e (by assumption); exact h
  refine loopX (τ := Nat × Nat × List Pt) (fun (xτ : Nat × Nat × List Pt) a Wx => (fun (j : Nat) (k : Nat) (r : List Pt) => (DelI l r j k ∧ r.length = l.length ∧ k < j ∧ j ≤ l.length) ∧ Fr 42 a [(0, .slice p l.length cap), (1, .func (.func 117) #[] #[]), (4, .slice none 0 0), (5, .int .i64 ((k : Int))), (6, .int .i64 ((j : Int)))] ∧ Own W (rowN p) [rowL ptL 18 68 p cap r] Wx) (xτ.1) (xτ.2.1) (xτ.2.2)) (fun (xτ : Nat × Nat × List Pt) => (fun (j : Nat) (k : Nat) (r : List Pt) => l.length - j) (xτ.1) (xτ.2.1) (xτ.2.2)) ((i0 + 1, i0, l)) ⟨(del_4 (del_0 hi1 hi2 hi3)), ?_, ?_⟩ ?_
  · exact hF.restrict ⟨(congrArg some (by first | rfl | exact congrArg (Value.int _) (by omega) | simp)), (by kernel_rfl), (by kernel_rfl), (congrArg some (by first | rfl | exact congrArg (Value.int _) (by omega) | simp)), (congrArg some (by first | rfl | exact congrArg (Value.int _) (by omega) | simp)), trivial⟩
  · exact hO.sub (.cons_cons _ (List.nil_sublist _))
  clear hF hO; rintro ⟨j, k, r⟩ a Wl1 ⟨hI, hF, hO⟩ KhK_1 hK_1
  try dsimp only at hI
  refine wp_seq_k fun K8 hK8 => ?_
  refine wp_seq_k fun K9 hK9 => ?_
  refine wp_region_lit ?_
  refine Vp hF (.int .i64 ((j : Int))) ?_; clear hF; intro a hF
  refine Vp hF (.slice p l.length cap) ?_; clear hF; intro a hF
  refine Vp hF (.int .i64 ((l.length : Int))) ?_; clear hF; intro a hF
  refine Vp hF (.bool (decide ((j : Int) < (l.length : Int)))) ?_; clear hF; intro a hF
  refine L_nil ?_
  refine hK9 _ _ ?_
  by_cases q2 : (j : Int) < (l.length : Int)
  ·
   replace hF := hF.know (d := 19) (v' := .bool true) (by kernel_rfl) (congrArg Value.bool (decide_eq_true q2))
   refine cond_t hF (by kernel_rfl) (by kernel_rfl) ?_
   refine wp_skip ?_
   refine hK8 _ _ ?_
   refine wp_seq_k fun K10 hK10 => ?_
   refine wp_block ?_
   refine wp_seq_k fun K11 hK11 => ?_
   refine wp_region_lit ?_
   refine Vp hF (.slice p l.length cap) ?_; clear hF; intro a hF
   refine Vp hF (.int .i64 ((j : Int))) ?_; clear hF; intro a hF
   refine Vr hF (.pointer (some ⟨(ab p), ao p + j * 18, none⟩)) (x_idxAddrS (p := p) (len := l.length) (cap := cap) (elem := 68) (kd := .i64) (k := 18) (i := (j : Int)) rfl (by kernel_rfl) (by kernel_rfl) (by kernel_rfl) (by kernel_rfl) (by omega) (by omega) (SlAt.ne (k := 18) (hO.row List.mem_cons_self) (fun _ => rfl) (by decide) (by (first | omega | (simp only [List.length_set, List.length_take, List.length_drop, List.length_append, List.length_cons, List.length_nil]; done) | (simp only [List.length_set, List.length_take, List.length_drop, List.length_append, List.length_cons, List.length_nil]; omega) | (simp only [List.length_set, List.length_take, List.length_drop, List.length_append, List.length_cons, List.length_nil] at *; omega)) : j < r.length))) ?_; clear hF; intro a hF
   refine Vr hF (ptV (nth r j)) (x_load (p := .pointer (some ⟨(ab p), ao p + j * 18, none⟩)) rfl (by kernel_rfl) (run_loadEl (k := 18) (by kernel_rfl) (by kernel_rfl) (hO.row List.mem_cons_self) (fun _ => rfl) (by (first | omega | (simp only [List.length_set, List.length_take, List.length_drop, List.length_append, List.length_cons, List.length_nil]; done) | (simp only [List.length_set, List.length_take, List.length_drop, List.length_append, List.length_cons, List.length_nil]; omega) | (simp only [List.length_set, List.length_take, List.length_drop, List.length_append, List.length_cons, List.length_nil] at *; omega))) rfl)) ?_; clear hF; intro a hF
   refine L_new hF hO (by kernel_rfl) (by kernel_rfl) (vf := fun b => .pointer (some ⟨b, 0, none⟩)) (ob := .cells #[.bool false, .int .u8 0, .int .u8 0, .int .u8 0, .int .u8 0, .int .u8 0, .int .u8 0, .int .u8 0, .int .u8 0, .int .u8 0, .int .u8 0, .int .u8 0, .int .u8 0, .int .u8 0, .int .u8 0, .int .u8 0, .int .u8 0, .int .i64 0] 68) (by kernel_rfl) (by kernel_rfl) ?_
   clear hF hO; intro b1 W2 a hO hF
   obtain ⟨W3, hst, hO1⟩ := run_storeAt (P := Tryz.prog) (k := 18) (T := 68) (off := 0) (v := ptV (nth r j)) (cs := #[.bool false, .int .u8 0, .int .u8 0, .int .u8 0, .int .u8 0, .int .u8 0, .int .u8 0, .int .u8 0, .int .u8 0, .int .u8 0, .int .u8 0, .int .u8 0, .int .u8 0, .int .u8 0, .int .u8 0, .int .u8 0, .int .u8 0, .int .i64 0]) (cs' := #[.bool (((nth r j).ip).six), .int .u8 ((((nth r j).ip).b0.toNat : Int)), .int .u8 ((((nth r j).ip).b1.toNat : Int)), .int .u8 ((((nth r j).ip).b2.toNat : Int)), .int .u8 ((((nth r j).ip).b3.toNat : Int)), .int .u8 ((((nth r j).ip).b4.toNat : Int)), .int .u8 ((((nth r j).ip).b5.toNat : Int)), .int .u8 ((((nth r j).ip).b6.toNat : Int)), .int .u8 ((((nth r j).ip).b7.toNat : Int)), .int .u8 ((((nth r j).ip).b8.toNat : Int)), .int .u8 ((((nth r j).ip).b9.toNat : Int)), .int .u8 ((((nth r j).ip).b10.toNat : Int)), .int .u8 ((((nth r j).ip).b11.toNat : Int)), .int .u8 ((((nth r j).ip).b12.toNat : Int)), .int .u8 ((((nth r j).ip).b13.toNat : Int)), .int .u8 ((((nth r j).ip).b14.toNat : Int)), .int .u8 ((((nth r j).ip).b15.toNat : Int)), .int .i64 ((nth r j).port)]) hO (by kernel_rfl) (by kernel_rfl) (by kernel_rfl) (Nat.le_of_ble_eq_true (by kernel_rfl)) (by kernel_rfl) (.head _)
   refine L_skip hF (by kernel_rfl) (by kernel_rfl) (x_store (p := .pointer (some ⟨b1, 0, none⟩)) (v := ptV (nth r j)) rfl (by kernel_rfl) (by kernel_rfl) hst) (by kernel_rfl) ?_
   clear hst hF; intro a hF; replace hO := hO1; clear hO1
   refine L_nil ?_
   refine hK11 _ _ ?_
   refine wp_seq_k fun K12 hK12 => ?_
   refine wp_region_lit ?_
   refine Vp hF (.func (.func 117) #[] #[]) ?_; clear hF; intro a hF
   refine Vr hF (.agg #[.bool (((nth r j).ip).six), .int .u8 ((((nth r j).ip).b0.toNat : Int)), .int .u8 ((((nth r j).ip).b1.toNat : Int)), .int .u8 ((((nth r j).ip).b2.toNat : Int)), .int .u8 ((((nth r j).ip).b3.toNat : Int)), .int .u8 ((((nth r j).ip).b4.toNat : Int)), .int .u8 ((((nth r j).ip).b5.toNat : Int)), .int .u8 ((((nth r j).ip).b6.toNat : Int)), .int .u8 ((((nth r j).ip).b7.toNat : Int)), .int .u8 ((((nth r j).ip).b8.toNat : Int)), .int .u8 ((((nth r j).ip).b9.toNat : Int)), .int .u8 ((((nth r j).ip).b10.toNat : Int)), .int .u8 ((((nth r j).ip).b11.toNat : Int)), .int .u8 ((((nth r j).ip).b12.toNat : Int)), .int .u8 ((((nth r j).ip).b13.toNat : Int)), .int .u8 ((((nth r j).ip).b14.toNat : Int)), .int .u8 ((((nth r j).ip).b15.toNat : Int)), .int .i64 ((nth r j).port)]) (x_load (p := .pointer (some ⟨b1, 0, none⟩)) rfl (by kernel_rfl) (run_loadA (k := 18) (by kernel_rfl) (by kernel_rfl) (hO.blk List.mem_cons_self) (by kernel_rfl) (by kernel_rfl))) ?_; clear hF; intro a hF
   refine Lc hF (merge_1 (nth r j) W3) ?_
   clear hF; rintro _ W4 a ⟨rfl, hk⟩ hF
   replace hO := hO.call0 hk; clear hk
   refine Vp hF (.bool (!(!(rightCd (nth r j))))) ?_; clear hF; intro a hF
   refine L_nil ?_
   refine hK12 _ _ ?_
   cases q3 : (rightCd (nth r j) : Bool)
   ·
    replace hF := hF.know (d := 29) (v' := .bool false) (by kernel_rfl) (congrArg Value.bool (notF (notT q3)))
    refine cond_f hF (by kernel_rfl) (by kernel_rfl) ?_
    refine wp_skip ?_
    refine block_normal ?_
    refine hK10 _ _ ?_
    refine wp_region_lit ?_
    refine Vp hF (.int .i64 ((j : Int))) ?_; clear hF; intro a hF
    refine Vr hF (.int .i64 ((j : Int) + 1)) (x_int (x := IntKind.i64.wrap ((j : Int) + 1)) (i64In (by omega) (by omega)) (by kernel_rfl)) ?_; clear hF; intro a hF
    refine Vp hF (.int .i64 ((j : Int) + 1)) ?_; clear hF; intro a hF
    refine L_nil ?_
    refine hK_1 ((j + 1, k, r)) _ _ (by first | omega | (dsimp only; omega)) ⟨(by dsimp only; first | exact del_4 (del_keep hI.1 (by omega) (by assumption)) | exact del_4 (del_skip hI.1 (by omega) (by assumption))), ?_, ?_⟩
    · exact hF.restrict ⟨(congrArg some (by first | rfl | exact congrArg (Value.int _) (by omega) | simp)), (by kernel_rfl), (by kernel_rfl), (congrArg some (by first | rfl | exact congrArg (Value.int _) (by omega) | simp)), (congrArg some (by first | rfl | exact congrArg (Value.int _) (by omega) | simp)), trivial⟩
    · exact hO.sub (.cons _ (.cons_cons _ (List.nil_sublist _)))
   ·
    replace hF := hF.know (d := 29) (v' := .bool true) (by kernel_rfl) (congrArg Value.bool (notT (notF q3)))
    refine cond_t hF (by kernel_rfl) (by kernel_rfl) ?_
    refine wp_seq_k fun K13 hK13 => ?_
    refine wp_region_lit ?_
    refine Vp hF (.slice p l.length cap) ?_; clear hF; intro a hF
    refine Vp hF (.int .i64 ((k : Int))) ?_; clear hF; intro a hF
    refine Vr hF (.agg #[.bool (((nth r j).ip).six), .int .u8 ((((nth r j).ip).b0.toNat : Int)), .int .u8 ((((nth r j).ip).b1.toNat : Int)), .int .u8 ((((nth r j).ip).b2.toNat : Int)), .int .u8 ((((nth r j).ip).b3.toNat : Int)), .int .u8 ((((nth r j).ip).b4.toNat : Int)), .int .u8 ((((nth r j).ip).b5.toNat : Int)), .int .u8 ((((nth r j).ip).b6.toNat : Int)), .int .u8 ((((nth r j).ip).b7.toNat : Int)), .int .u8 ((((nth r j).ip).b8.toNat : Int)), .int .u8 ((((nth r j).ip).b9.toNat : Int)), .int .u8 ((((nth r j).ip).b10.toNat : Int)), .int .u8 ((((nth r j).ip).b11.toNat : Int)), .int .u8 ((((nth r j).ip).b12.toNat : Int)), .int .u8 ((((nth r j).ip).b13.toNat : Int)), .int .u8 ((((nth r j).ip).b14.toNat : Int)), .int .u8 ((((nth r j).ip).b15.toNat : Int)), .int .i64 ((nth r j).port)]) (x_load (p := .pointer (some ⟨b1, 0, none⟩)) rfl (by kernel_rfl) (run_loadA (k := 18) (by kernel_rfl) (by kernel_rfl) (hO.blk List.mem_cons_self) (by kernel_rfl) (by kernel_rfl))) ?_; clear hF; intro a hF
    refine Vr hF (.pointer (some ⟨(ab p), ao p + k * 18, none⟩)) (x_idxAddrS (p := p) (len := l.length) (cap := cap) (elem := 68) (kd := .i64) (k := 18) (i := (k : Int)) rfl (by kernel_rfl) (by kernel_rfl) (by kernel_rfl) (by kernel_rfl) (by omega) (by omega) (SlAt.ne (k := 18) (hO.row (List.mem_cons_of_mem _ List.mem_cons_self)) (fun _ => rfl) (by decide) (by (first | omega | (simp only [List.length_set, List.length_take, List.length_drop, List.length_append, List.length_cons, List.length_nil]; done) | (simp only [List.length_set, List.length_take, List.length_drop, List.length_append, List.length_cons, List.length_nil]; omega) | (simp only [List.length_set, List.length_take, List.length_drop, List.length_append, List.length_cons, List.length_nil] at *; omega)) : k < r.length))) ?_; clear hF; intro a hF
    obtain ⟨W5, hst, hO1⟩ := run_store_el (P := Tryz.prog) (T := 68) (k := 18) (i := k) (v := .agg #[.bool (((nth r j).ip).six), .int .u8 ((((nth r j).ip).b0.toNat : Int)), .int .u8 ((((nth r j).ip).b1.toNat : Int)), .int .u8 ((((nth r j).ip).b2.toNat : Int)), .int .u8 ((((nth r j).ip).b3.toNat : Int)), .int .u8 ((((nth r j).ip).b4.toNat : Int)), .int .u8 ((((nth r j).ip).b5.toNat : Int)), .int .u8 ((((nth r j).ip).b6.toNat : Int)), .int .u8 ((((nth r j).ip).b7.toNat : Int)), .int .u8 ((((nth r j).ip).b8.toNat : Int)), .int .u8 ((((nth r j).ip).b9.toNat : Int)), .int .u8 ((((nth r j).ip).b10.toNat : Int)), .int .u8 ((((nth r j).ip).b11.toNat : Int)), .int .u8 ((((nth r j).ip).b12.toNat : Int)), .int .u8 ((((nth r j).ip).b13.toNat : Int)), .int .u8 ((((nth r j).ip).b14.toNat : Int)), .int .u8 ((((nth r j).ip).b15.toNat : Int)), .int .i64 ((nth r j).port)]) (x' := (nth r j)) hO (.tail (.head _)) (fun _ => rfl) (by kernel_rfl) (by kernel_rfl) (by (first | omega | (simp only [List.length_set, List.length_take, List.length_drop, List.length_append, List.length_cons, List.length_nil]; done) | (simp only [List.length_set, List.length_take, List.length_drop, List.length_append, List.length_cons, List.length_nil]; omega) | (simp only [List.length_set, List.length_take, List.length_drop, List.length_append, List.length_cons, List.length_nil] at *; omega))) (by kernel_rfl)
    refine L_skip hF (by kernel_rfl) (by kernel_rfl) (x_store (p := .pointer (some ⟨(ab p), ao p + k * 18, none⟩)) (v := .agg #[.bool (((nth r j).ip).six), .int .u8 ((((nth r j).ip).b0.toNat : Int)), .int .u8 ((((nth r j).ip).b1.toNat : Int)), .int .u8 ((((nth r j).ip).b2.toNat : Int)), .int .u8 ((((nth r j).ip).b3.toNat : Int)), .int .u8 ((((nth r j).ip).b4.toNat : Int)), .int .u8 ((((nth r j).ip).b5.toNat : Int)), .int .u8 ((((nth r j).ip).b6.toNat : Int)), .int .u8 ((((nth r j).ip).b7.toNat : Int)), .int .u8 ((((nth r j).ip).b8.toNat : Int)), .int .u8 ((((nth r j).ip).b9.toNat : Int)), .int .u8 ((((nth r j).ip).b10.toNat : Int)), .int .u8 ((((nth r j).ip).b11.toNat : Int)), .int .u8 ((((nth r j).ip).b12.toNat : Int)), .int .u8 ((((nth r j).ip).b13.toNat : Int)), .int .u8 ((((nth r j).ip).b14.toNat : Int)), .int .u8 ((((nth r j).ip).b15.toNat : Int)), .int .i64 ((nth r j).port)]) rfl (by kernel_rfl) (by kernel_rfl) hst) (by kernel_rfl) ?_
    clear hst hF; intro a hF; replace hO := hO1; clear hO1
    refine L_nil ?_
    refine hK13 _ _ ?_
    refine wp_region_lit ?_
    refine Vp hF (.int .i64 ((k : Int))) ?_; clear hF; intro a hF
    refine Vr hF (.int .i64 ((k : Int) + 1)) (x_int (x := IntKind.i64.wrap ((k : Int) + 1)) (i64In (by omega) (by omega)) (by kernel_rfl)) ?_; clear hF; intro a hF
    refine Vp hF (.int .i64 ((k : Int) + 1)) ?_; clear hF; intro a hF
    refine L_nil ?_
    refine block_normal ?_
    refine hK10 _ _ ?_
    refine wp_region_lit ?_
    refine Vp hF (.int .i64 ((j : Int))) ?_; clear hF; intro a hF
    refine Vr hF (.int .i64 ((j : Int) + 1)) (x_int (x := IntKind.i64.wrap ((j : Int) + 1)) (i64In (by omega) (by omega)) (by kernel_rfl)) ?_; clear hF; intro a hF
    refine Vp hF (.int .i64 ((j : Int) + 1)) ?_; clear hF; intro a hF
    refine L_nil ?_
    refine hK_1 ((j + 1, ((k : Int) + 1).toNat, r.set k (nth r j))) _ _ (by first | omega | (dsimp only; omega)) ⟨(by dsimp only; first | exact del_4 (del_keep hI.1 (by omega) (by assumption)) | exact del_4 (del_skip hI.1 (by omega) (by assumption))), ?_, ?_⟩
    · exact hF.restrict ⟨(congrArg some (by first | rfl | exact congrArg (Value.int _) (by omega) | simp)), (by kernel_rfl), (by kernel_rfl), (congrArg some (by first | rfl | exact congrArg (Value.int _) (by omega) | simp)), (congrArg some (by first | rfl | exact congrArg (Value.int _) (by omega) | simp)), trivial⟩
    · exact hO.sub (.cons_cons _ (List.nil_sublist _))
  ·
   replace hF := hF.know (d := 19) (v' := .bool false) (by kernel_rfl) (congrArg Value.bool (decide_eq_false q2))
   refine cond_f hF (by kernel_rfl) (by kernel_rfl) ?_
   refine wp_exit ?_
   refine then_exit ?_
   refine then_exit ?_
   refine inBlock_hit ?_
   refine hK6 _ _ ?_
   refine wp_seq_k fun K14 hK14 => ?_
   refine wp_region_lit ?_
   refine Vp hF (.slice p l.length cap) ?_; clear hF; intro a hF
   refine Vp hF (.int .i64 ((k : Int))) ?_; clear hF; intro a hF
   refine Vr hF (.slice (subP p cap k 18) ((r.drop k).length) (cap - k)) (x_slSlL (p := p) (len := l.length) (cap := cap) (elem := 68) (k := 18) (lo := (k : Int)) (hi := (l.length : Int)) rfl (by kernel_rfl) (by kernel_rfl) (by kernel_rfl) ⟨.i64, (by kernel_rfl)⟩ rfl (by (first | omega | (first | omega | (simp only [List.length_set, List.length_take, List.length_drop, List.length_append, List.length_cons, List.length_nil]; done) | (simp only [List.length_set, List.length_take, List.length_drop, List.length_append, List.length_cons, List.length_nil]; omega) | (simp only [List.length_set, List.length_take, List.length_drop, List.length_append, List.length_cons, List.length_nil] at *; omega)))) (by (first | omega | (first | omega | (simp only [List.length_set, List.length_take, List.length_drop, List.length_append, List.length_cons, List.length_nil]; done) | (simp only [List.length_set, List.length_take, List.length_drop, List.length_append, List.length_cons, List.length_nil]; omega) | (simp only [List.length_set, List.length_take, List.length_drop, List.length_append, List.length_cons, List.length_nil] at *; omega)))) (by have := (hO.rowCap List.mem_cons_self); (first | omega | (first | omega | (simp only [List.length_set, List.length_take, List.length_drop, List.length_append, List.length_cons, List.length_nil]; done) | (simp only [List.length_set, List.length_take, List.length_drop, List.length_append, List.length_cons, List.length_nil]; omega) | (simp only [List.length_set, List.length_take, List.length_drop, List.length_append, List.length_cons, List.length_nil] at *; omega)))) (by simp only [List.length_drop, List.length_take]; (first | omega | (first | omega | (simp only [List.length_set, List.length_take, List.length_drop, List.length_append, List.length_cons, List.length_nil]; done) | (simp only [List.length_set, List.length_take, List.length_drop, List.length_append, List.length_cons, List.length_nil]; omega) | (simp only [List.length_set, List.length_take, List.length_drop, List.length_append, List.length_cons, List.length_nil] at *; omega)))) rfl) ?_; clear hF; intro a hF
   obtain ⟨W6, hcl, hO1⟩ := run_clear_row (P := Tryz.prog) (t := 92) (ty := 0) (z := .agg #[.bool false, .int .u8 0, .int .u8 0, .int .u8 0, .int .u8 0, .int .u8 0, .int .u8 0, .int .u8 0, .int .u8 0, .int .u8 0, .int .u8 0, .int .u8 0, .int .u8 0, .int .u8 0, .int .u8 0, .int .u8 0, .int .u8 0, .int .i64 0]) (k := 18) (n := k) (q := (r.drop k).length) (r := cap - k) hO (.head _) (by kernel_rfl) (fun W => by kernel_rfl) (by kernel_rfl) (by kernel_rfl) (fun _ => rfl) (by (first | omega | (simp only [List.length_set, List.length_take, List.length_drop, List.length_append, List.length_cons, List.length_nil]; done) | (simp only [List.length_set, List.length_take, List.length_drop, List.length_append, List.length_cons, List.length_nil]; omega) | (simp only [List.length_set, List.length_take, List.length_drop, List.length_append, List.length_cons, List.length_nil] at *; omega))) (by (first | omega | (simp only [List.length_set, List.length_take, List.length_drop, List.length_append, List.length_cons, List.length_nil]; done) | (simp only [List.length_set, List.length_take, List.length_drop, List.length_append, List.length_cons, List.length_nil]; omega) | (simp only [List.length_set, List.length_take, List.length_drop, List.length_append, List.length_cons, List.length_nil] at *; omega)))
   refine L_valW hF (by kernel_rfl) (by kernel_rfl) (x_clear hcl rfl (by kernel_rfl) rfl) (by kernel_rfl) ?_
   clear hcl hF; intro a hF; replace hO := hO1; clear hO1
   refine L_nil ?_
   refine hK14 _ _ ?_
   refine wp_seq_k fun K15 hK15 => ?_
   refine wp_region_lit ?_
   refine Vp hF (.slice p l.length cap) ?_; clear hF; intro a hF
   refine Vp hF (.int .i64 ((k : Int))) ?_; clear hF; intro a hF
   refine Vr hF (.slice p ((r.take k).length) cap) (x_slSlH (p := p) (len := l.length) (cap := cap) (elem := 68) (k := 18) (hi := (k : Int)) rfl (by kernel_rfl) (by kernel_rfl) (by kernel_rfl) ⟨.i64, (by kernel_rfl)⟩ (by (first | omega | (first | omega | (simp only [List.length_set, List.length_take, List.length_drop, List.length_append, List.length_cons, List.length_nil]; done) | (simp only [List.length_set, List.length_take, List.length_drop, List.length_append, List.length_cons, List.length_nil]; omega) | (simp only [List.length_set, List.length_take, List.length_drop, List.length_append, List.length_cons, List.length_nil] at *; omega)))) (by have := (hO.rowCap List.mem_cons_self); (first | omega | (first | omega | (simp only [List.length_set, List.length_take, List.length_drop, List.length_append, List.length_cons, List.length_nil]; done) | (simp only [List.length_set, List.length_take, List.length_drop, List.length_append, List.length_cons, List.length_nil]; omega) | (simp only [List.length_set, List.length_take, List.length_drop, List.length_append, List.length_cons, List.length_nil] at *; omega)))) (by (first | omega | (simp only [List.length_set, List.length_take, List.length_drop, List.length_append, List.length_cons, List.length_nil]; done) | (simp only [List.length_set, List.length_take, List.length_drop, List.length_append, List.length_cons, List.length_nil]; omega) | (simp only [List.length_set, List.length_take, List.length_drop, List.length_append, List.length_cons, List.length_nil] at *; omega)))) ?_; clear hF; intro a hF
   refine Vp hF (.slice p ((r.take k).length) cap) ?_; clear hF; intro a hF
   refine L_nil ?_
   refine hK15 _ _ ?_
   refine wp_ret ?_
   refine ret1 hF (v := .slice p ((r.take k).length) cap) rfl (resT (by kernel_rfl)) (by (have he := del_end hI.1 (by omega); have ht : (r.take k).length = k := (by rw [List.length_take]; omega); exact ⟨by rw [← he.1, ht], by rw [← he.1]; exact hO.sub (.cons_cons _ (List.nil_sublist _))⟩)) .ret (.inl rfl)

set_option maxRecDepth 20000 in
theorem clone_Cd_nil (cap : Nat) (W : World) : Ret Tryz.prog 116 #[.slice none 0 cap] W fun v W' => v = .slice none 0 0 ∧ Own W noX [] W' := by
 refine enter Tryz.func116 rfl (n := 8) rfl (by kernel_rfl) (E0 := [(0, .slice none 0 cap)]) (by kernel_rfl) ?_
 intro a hF; have hO := Own.start W noX
 refine wp_seq_k fun K1 hK1 => ?_
 refine wp_region_lit ?_
 refine Vp hF (.slice none 0 0) ?_; clear hF; intro a hF
 refine L_nil ?_
 refine hK1 _ _ ?_
 refine wp_seq_k fun K2 hK2 => ?_
 refine wp_seq_k fun K3 hK3 => ?_
 refine wp_region_lit ?_
 refine Vp hF (.slice none 0 cap) ?_; clear hF; intro a hF
 refine Vp hF (.bool true) ?_; clear hF; intro a hF
 refine L_nil ?_
 refine hK3 _ _ ?_
 refine cond_t hF (by kernel_rfl) (by kernel_rfl) ?_
 refine wp_seq_k fun K4 hK4 => ?_
 refine wp_region_lit ?_
 refine Vp hF (.slice none 0 0) ?_; clear hF; intro a hF
 refine L_nil ?_
 refine hK4 _ _ ?_
 refine wp_ret ?_
 refine then_ret ?_
 refine ret1 hF (v := .slice none 0 0) rfl (resT (by kernel_rfl)) (by refine ⟨?_, hO.nil⟩; first | rfl | (simp [*]; done)) .ret (.inl rfl)

set_option maxRecDepth 20000 in
theorem clone_Cd_some (pa : Addr) (cap : Nat) (l : List Pt) (W : World) (hl : SlAt W (some pa) (l.flatMap ptL)) (hn : l.length ≤ 1000000) : Ret Tryz.prog 116 #[.slice (some pa) l.length cap] W fun v W' => ∃ q qc, v = .slice q l.length qc ∧ Own W noX [rowL ptL 18 68 q qc l] W' := by
 refine enter Tryz.func116 rfl (n := 8) rfl (by kernel_rfl) (E0 := [(0, .slice (some pa) l.length cap)]) (by kernel_rfl) ?_
 intro a hF; have hO := Own.start W noX
 refine wp_seq_k fun K1 hK1 => ?_
 refine wp_region_lit ?_
 refine Vp hF (.slice none 0 0) ?_; clear hF; intro a hF
 refine L_nil ?_
 refine hK1 _ _ ?_
 refine wp_seq_k fun K2 hK2 => ?_
 refine wp_seq_k fun K3 hK3 => ?_
 refine wp_region_lit ?_
 refine Vp hF (.slice (some pa) l.length cap) ?_; clear hF; intro a hF
 refine Vp hF (.bool false) ?_; clear hF; intro a hF
 refine L_nil ?_
 refine hK3 _ _ ?_
 refine cond_f hF (by kernel_rfl) (by kernel_rfl) ?_
 refine wp_skip ?_
 refine hK2 _ _ ?_
 refine wp_seq_k fun K4 hK4 => ?_
 refine wp_region_lit ?_
 refine L_new hF hO (by kernel_rfl) (by kernel_rfl) (vf := fun b => .slice (some ⟨b, 0, none⟩) 0 0) (ob := .cells #[] 68) (by kernel_rfl) (by kernel_rfl) ?_
 clear hF hO; intro b1 W1 a hO hF
 refine Vp hF (.slice (some pa) l.length cap) ?_; clear hF; intro a hF
 replace hO := hO.asRow (k := 18) (cap := 0) ptL ([] : List Pt) (.head _) (by decide) (by kernel_rfl) (by decide) (by kernel_rfl)
 obtain ⟨p1, cap1, W2, hap, hO1, -⟩ := run_append_row (P := Tryz.prog) (ty := 92) (t := 92) (z := .agg #[.bool false, .int .u8 0, .int .u8 0, .int .u8 0, .int .u8 0, .int .u8 0, .int .u8 0, .int .u8 0, .int .u8 0, .int .u8 0, .int .u8 0, .int .u8 0, .int .u8 0, .int .u8 0, .int .u8 0, .int .u8 0, .int .u8 0, .int .i64 0]) (k := 18) (bytes := 32) (q := some pa) (ys := l) (cq := cap) hO (.head _) (by kernel_rfl) (by kernel_rfl) (by kernel_rfl) (by decide) (fun _ => rfl) (fun _ => rfl) (hl.own hO) (by (try simp only [List.length_append, List.length_take, List.length_drop, List.length_cons, List.length_nil, maxLen]); omega) (by (try simp only [List.length_append, List.length_take, List.length_drop, List.length_cons, List.length_nil, maxLen]); omega)
 refine L_valW hF (by kernel_rfl) (by kernel_rfl) (x_app hap rfl (by kernel_rfl) (by kernel_rfl) rfl) (by kernel_rfl) ?_
 clear hap hF; intro a hF; replace hO := hO1; clear hO1
 refine Vp hF (.slice p1 l.length cap1) ?_; clear hF; intro a hF
 refine L_nil ?_
 refine hK4 _ _ ?_
 refine wp_ret ?_
 refine ret1 hF (v := .slice p1 l.length cap1) rfl (resT (by kernel_rfl)) (by exact ⟨_, _, rfl, hO.sub (.cons_cons _ (List.nil_sublist _))⟩) .ret (.inl rfl)

theorem clone_Cd (p : Option Addr) (cap : Nat) (l : List Pt) (W : World) (hl : SlAt W p (l.flatMap ptL)) (hn : l.length ≤ 1000000) : Ret Tryz.prog 116 #[.slice p l.length cap] W fun v W' => ∃ q qc, v = .slice q l.length qc ∧ Own W noX [rowL ptL 18 68 q qc l] W' := by
  cases p with
  | none =>
    cases l with
    | nil => exact (clone_Cd_nil cap W).mono fun v W' h => ⟨none, 0, h.1, h.2.nilRow _ _ _⟩
    | cons a t => exact absurd (SlAt.ne (k := 18) (i := 0) hl (fun _ => rfl) (by decide) (by simp)) (by simp)
  | some pa => exact clone_Cd_some pa cap l W hl hn

set_option maxRecDepth 20000 in
theorem sort_Cd (p : Option Addr) (cap : Nat) (l : List Pt) (W : World) (hr : (rowL ptL 18 68 p cap l).holds (heapF W)) (hn : l.length ≤ 1000000) :
    Ret Tryz.prog 118 #[.slice p l.length cap, .func (.func 61) #[] #[]] W fun v W' => v = .tuple #[] ∧ Own W (rowX p) [rowL ptL 18 68 p cap (l.mergeSort fun x y => !(Go.Proofs.ltOf cmpCd) y x)] W' := by
  have h6 := sort_row (P := Tryz.prog) (ρ := Tryz.sortCd_ren) (c := ptL) (k := 18) (l := l) (p := p) (cap := cap) (e := 68) (W := W) Tryz.sortCd (fun w => by kernel_rfl) (fun w => by kernel_rfl) (fun _ => rfl) (fun _ => rfl) cmpCd swoCd totCd 61 (enters_of Tryz.func61 (by kernel_rfl) rfl)
  exact h6 cidr_CompareD hr (by omega)

set_option maxRecDepth 20000 in
theorem cidr_Merge (p : Option Addr) (cap : Nat) (l : List Pt) (W : World) (hl : SlAt W p (l.flatMap ptL)) (hn : l.length ≤ 1000) : Ret Tryz.prog 75 #[.slice p l.length cap] W fun v W' => ∃ q qc, v = .slice q (mergeP l).length qc ∧ Own W noX [rowL ptL 18 68 q qc (mergeP l)] W' := by
 refine enter Tryz.func75 rfl (n := 38) rfl (by kernel_rfl) (E0 := [(0, .slice p l.length cap)]) (by kernel_rfl) ?_
 intro a hF; have hO := Own.start W noX
 refine wp_seq_k fun K1 hK1 => ?_
 refine wp_region_lit ?_
 refine Vp hF (.slice none 0 0) ?_; clear hF; intro a hF
 refine L_nil ?_
 refine hK1 _ _ ?_
 refine wp_seq_k fun K2 hK2 => ?_
 refine wp_region_lit ?_
 refine Vp hF (.slice p l.length cap) ?_; clear hF; intro a hF
 refine Lc hF (clone_Cd (p) cap l W (hl.own hO) (by (first | omega | (simp only [List.length_set, List.length_take, List.length_drop, List.length_append, List.length_cons, List.length_nil]; done) | (simp only [List.length_set, List.length_take, List.length_drop, List.length_append, List.length_cons, List.length_nil]; omega) | (simp only [List.length_set, List.length_take, List.length_drop, List.length_append, List.length_cons, List.length_nil] at *; omega)))) ?_
 clear hF; rintro _ W1 a ⟨q1, qc1, rfl, hk⟩ hF
 replace hO := hO.call1 hk; clear hk
 refine Lc hF (delete_cd (q1) qc1 l W1 (hO.holds _ List.mem_cons_self) (by (first | omega | (simp only [List.length_set, List.length_take, List.length_drop, List.length_append, List.length_cons, List.length_nil]; done) | (simp only [List.length_set, List.length_take, List.length_drop, List.length_append, List.length_cons, List.length_nil]; omega) | (simp only [List.length_set, List.length_take, List.length_drop, List.length_append, List.length_cons, List.length_nil] at *; omega)))) ?_
 clear hF; rintro _ W2 a ⟨rfl, hk⟩ hF
 replace hO := viaN hO (.head _) hk; clear hk
 refine Vp hF (.slice q1 ((l.filter rightCd).length) qc1) ?_; clear hF; intro a hF
 refine L_nil ?_
 refine hK2 _ _ ?_
 refine wp_seq_k fun K3 hK3 => ?_
 refine wp_region_lit ?_
 refine Vp hF (.slice q1 ((l.filter rightCd).length) qc1) ?_; clear hF; intro a hF
 refine Lc hF (sort_Cd (q1) qc1 (l.filter rightCd) W2 (hO.holds _ List.mem_cons_self) (by have := List.length_filter_le rightCd l; omega)) ?_
 clear hF; rintro _ W3 a ⟨rfl, hk⟩ hF
 replace hO := hO.via1 (.head _) hk; clear hk
 have hSl : ((l.filter rightCd).mergeSort fun x y => !(Go.Proofs.ltOf cmpCd) y x).length = (l.filter rightCd).length := List.length_mergeSort _
 have hSf := List.length_filter_le rightCd l
 rw [← hSl] at hF hSf
 generalize hS : ((l.filter rightCd).mergeSort fun x y => !(Go.Proofs.ltOf cmpCd) y x) = S at hF hO hSf
 clear hSl
 refine L_nil ?_
 refine hK3 _ _ ?_
 refine wp_seq_k fun K4 hK4 => ?_
 refine wp_region_lit ?_
 refine Vp hF (.slice none 0 0) ?_; clear hF; intro a hF
 refine L_nil ?_
 refine hK4 _ _ ?_
 refine wp_seq_k fun K5 hK5 => ?_
 refine wp_seq_k fun K6 hK6 => ?_
 refine wp_region_lit ?_
 refine Vp hF (.slice q1 S.length qc1) ?_; clear hF; intro a hF
 refine Vp hF (.int .i64 ((S.length : Int))) ?_; clear hF; intro a hF
 refine Vp hF (.int .i64 0) ?_; clear hF; intro a hF
 refine L_nil ?_
 refine hK6 _ _ ?_
 refine wp_block ?_
 replace hO := hO.nilRow ptL 18 68
 refine loopX (τ := Nat × Option Addr × Nat × List Pt) (fun (xτ : Nat × Option Addr × Nat × List Pt) a Wx => (fun (i : Nat) (q : Option Addr) (qc : Nat) (r : List Pt) => (i ≤ S.length ∧ r = (S.take i).foldl sweep1 [] ∧ r.length ≤ i) ∧ Fr 38 a [(2, .slice none 0 0), (4, .slice q r.length qc), (13, .slice q1 S.length qc1), (14, .int .i64 ((S.length : Int))), (15, .int .i64 ((i : Int)))] ∧ Own W noX [rowL ptL 18 68 q qc r, rowL ptL 18 68 q1 qc1 S] Wx) (xτ.1) (xτ.2.1) (xτ.2.2.1) (xτ.2.2.2)) (fun (xτ : Nat × Option Addr × Nat × List Pt) => (fun (i : Nat) (q : Option Addr) (qc : Nat) (r : List Pt) => S.length - i) (xτ.1) (xτ.2.1) (xτ.2.2.1) (xτ.2.2.2)) ((0, none, 0, [])) ⟨⟨Nat.zero_le _, rfl, Nat.le_refl _⟩, ?_, ?_⟩ ?_
 · exact hF.restrict ⟨(by kernel_rfl), (congrArg some (by first | rfl | exact congrArg (Value.int _) (by omega) | simp)), (by kernel_rfl), (by kernel_rfl), (congrArg some (by first | rfl | exact congrArg (Value.int _) (by omega) | simp)), trivial⟩
 · exact hO.sub (.cons_cons _ (.cons_cons _ (List.nil_sublist _)))
 clear hF hO; rintro ⟨i, q, qc, r⟩ a Wl1 ⟨hI, hF, hO⟩ KhK_1 hK_1
 try dsimp only at hI
 refine wp_seq_k fun K7 hK7 => ?_
 refine wp_region_lit ?_
 refine Vp hF (.bool (decide ((i : Int) < (S.length : Int)))) ?_; clear hF; intro a hF
 refine L_nil ?_
 refine hK7 _ _ ?_
 refine wp_seq_k fun K8 hK8 => ?_
 by_cases q2 : (i : Int) < (S.length : Int)
 ·
  replace hF := hF.know (d := 16) (v' := .bool true) (by kernel_rfl) (congrArg Value.bool (decide_eq_true q2))
  refine cond_t hF (by kernel_rfl) (by kernel_rfl) ?_
  refine wp_skip ?_
  refine hK8 _ _ ?_
  refine wp_seq_k fun K9 hK9 => ?_
  refine wp_block ?_
  refine wp_seq_k fun K10 hK10 => ?_
  refine wp_region_lit ?_
  refine Vr hF (.pointer (some ⟨(ab q1), ao q1 + i * 18, none⟩)) (x_idxAddrS (p := q1) (len := S.length) (cap := qc1) (elem := 68) (kd := .i64) (k := 18) (i := (i : Int)) rfl (by kernel_rfl) (by kernel_rfl) (by kernel_rfl) (by kernel_rfl) (by omega) (by omega) (SlAt.ne (k := 18) (hO.row (List.mem_cons_of_mem _ List.mem_cons_self)) (fun _ => rfl) (by decide) (by (first | omega | (simp only [List.length_set, List.length_take, List.length_drop, List.length_append, List.length_cons, List.length_nil]; done) | (simp only [List.length_set, List.length_take, List.length_drop, List.length_append, List.length_cons, List.length_nil]; omega) | (simp only [List.length_set, List.length_take, List.length_drop, List.length_append, List.length_cons, List.length_nil] at *; omega)) : i < S.length))) ?_; clear hF; intro a hF
  refine Vr hF (ptV (nth S i)) (x_load (p := .pointer (some ⟨(ab q1), ao q1 + i * 18, none⟩)) rfl (by kernel_rfl) (run_loadEl (k := 18) (by kernel_rfl) (by kernel_rfl) (hO.row (List.mem_cons_of_mem _ List.mem_cons_self)) (fun _ => rfl) (by (first | omega | (simp only [List.length_set, List.length_take, List.length_drop, List.length_append, List.length_cons, List.length_nil]; done) | (simp only [List.length_set, List.length_take, List.length_drop, List.length_append, List.length_cons, List.length_nil]; omega) | (simp only [List.length_set, List.length_take, List.length_drop, List.length_append, List.length_cons, List.length_nil] at *; omega))) rfl)) ?_; clear hF; intro a hF
  refine L_new hF hO (by kernel_rfl) (by kernel_rfl) (vf := fun b => .pointer (some ⟨b, 0, none⟩)) (ob := .cells #[.bool false, .int .u8 0, .int .u8 0, .int .u8 0, .int .u8 0, .int .u8 0, .int .u8 0, .int .u8 0, .int .u8 0, .int .u8 0, .int .u8 0, .int .u8 0, .int .u8 0, .int .u8 0, .int .u8 0, .int .u8 0, .int .u8 0, .int .i64 0] 68) (by kernel_rfl) (by kernel_rfl) ?_
  clear hF hO; intro b1 W4 a hO hF
  obtain ⟨W5, hst, hO1⟩ := run_storeAt (P := Tryz.prog) (k := 18) (T := 68) (off := 0) (v := ptV (nth S i)) (cs := #[.bool false, .int .u8 0, .int .u8 0, .int .u8 0, .int .u8 0, .int .u8 0, .int .u8 0, .int .u8 0, .int .u8 0, .int .u8 0, .int .u8 0, .int .u8 0, .int .u8 0, .int .u8 0, .int .u8 0, .int .u8 0, .int .u8 0, .int .i64 0]) (cs' := #[.bool (((nth S i).ip).six), .int .u8 ((((nth S i).ip).b0.toNat : Int)), .int .u8 ((((nth S i).ip).b1.toNat : Int)), .int .u8 ((((nth S i).ip).b2.toNat : Int)), .int .u8 ((((nth S i).ip).b3.toNat : Int)), .int .u8 ((((nth S i).ip).b4.toNat : Int)), .int .u8 ((((nth S i).ip).b5.toNat : Int)), .int .u8 ((((nth S i).ip).b6.toNat : Int)), .int .u8 ((((nth S i).ip).b7.toNat : Int)), .int .u8 ((((nth S i).ip).b8.toNat : Int)), .int .u8 ((((nth S i).ip).b9.toNat : Int)), .int .u8 ((((nth S i).ip).b10.toNat : Int)), .int .u8 ((((nth S i).ip).b11.toNat : Int)), .int .u8 ((((nth S i).ip).b12.toNat : Int)), .int .u8 ((((nth S i).ip).b13.toNat : Int)), .int .u8 ((((nth S i).ip).b14.toNat : Int)), .int .u8 ((((nth S i).ip).b15.toNat : Int)), .int .i64 ((nth S i).port)]) hO (by kernel_rfl) (by kernel_rfl) (by kernel_rfl) (Nat.le_of_ble_eq_true (by kernel_rfl)) (by kernel_rfl) (.head _)
  refine L_skip hF (by kernel_rfl) (by kernel_rfl) (x_store (p := .pointer (some ⟨b1, 0, none⟩)) (v := ptV (nth S i)) rfl (by kernel_rfl) (by kernel_rfl) hst) (by kernel_rfl) ?_
  clear hst hF; intro a hF; replace hO := hO1; clear hO1
  refine L_nil ?_
  refine hK10 _ _ ?_
  refine wp_seq_k fun K11 hK11 => ?_
  refine wp_seq_k fun K12 hK12 => ?_
  refine wp_region_lit ?_
  refine Vp hF (.slice q r.length qc) ?_; clear hF; intro a hF
  refine Vp hF (.int .i64 ((r.length : Int))) ?_; clear hF; intro a hF
  refine Vp hF (.int .i64 ((r.length : Int))) ?_; clear hF; intro a hF
  refine L_nil ?_
  refine hK12 _ _ ?_
  refine wp_seq_k fun K13 hK13 => ?_
  refine A_start (fun Wx => Own W noX [.blk b1 (.cells #[.bool (((nth S i).ip).six), .int .u8 ((((nth S i).ip).b0.toNat : Int)), .int .u8 ((((nth S i).ip).b1.toNat : Int)), .int .u8 ((((nth S i).ip).b2.toNat : Int)), .int .u8 ((((nth S i).ip).b3.toNat : Int)), .int .u8 ((((nth S i).ip).b4.toNat : Int)), .int .u8 ((((nth S i).ip).b5.toNat : Int)), .int .u8 ((((nth S i).ip).b6.toNat : Int)), .int .u8 ((((nth S i).ip).b7.toNat : Int)), .int .u8 ((((nth S i).ip).b8.toNat : Int)), .int .u8 ((((nth S i).ip).b9.toNat : Int)), .int .u8 ((((nth S i).ip).b10.toNat : Int)), .int .u8 ((((nth S i).ip).b11.toNat : Int)), .int .u8 ((((nth S i).ip).b12.toNat : Int)), .int .u8 ((((nth S i).ip).b13.toNat : Int)), .int .u8 ((((nth S i).ip).b14.toNat : Int)), .int .u8 ((((nth S i).ip).b15.toNat : Int)), .int .i64 ((nth S i).port)] 68 (0, 0)), rowL ptL 18 68 q qc r, rowL ptL 18 68 q1 qc1 S] Wx) (by kernel_rfl) ?_
  replace hO := hO.drewN 1
  generalize hWd : ({ W5 with drawn := W5.drawn + 1 } : World) = W5_d at hO ⊢; clear hWd
  have hS := hO.sub (.cons_cons _ (.cons_cons _ (.cons_cons _ (List.nil_sublist _))))
  refine Tk 0 rfl hF (.int .i64 ((r.length : Int))) (fun Wx _ => by kernel_rfl) hS ?_; clear hF; intro a hF
  refine Tk 1 rfl hF (.bool (decide ((r.length : Int) > 0))) (fun Wx _ => by kernel_rfl) hS ?_; clear hF; intro a hF
  refine Tk 2 rfl hF (.bool (decide ((r.length : Int) > 0))) (fun Wx _ => by kernel_rfl) hS ?_; clear hF; intro a hF
  by_cases q3 : (r.length : Int) > 0
  ·
   replace hF := hF.know (d := 23) (v' := .bool true) (by kernel_rfl) (congrArg Value.bool (decide_eq_true q3))
   refine Tk 3 rfl hF (.slice q r.length qc) (fun Wx _ => by kernel_rfl) hS ?_; clear hF; intro a hF
   refine Tk 4 rfl hF (.int .i64 ((r.length : Int))) (fun Wx _ => by kernel_rfl) hS ?_; clear hF; intro a hF
   refine Tk 5 rfl hF (.int .i64 ((r.length : Int) - 1)) (fun Wx _ => (x_int (x := IntKind.i64.wrap ((r.length : Int) - 1)) (i64In (by omega) (by omega)) (by kernel_rfl))) hS ?_; clear hF; intro a hF
   refine Tk 6 rfl hF (.pointer (some ⟨(ab q), ao q + (((r.length : Int) - 1).toNat) * 18, none⟩)) (fun Wx _ => (x_idxAddrS (p := q) (len := r.length) (cap := qc) (elem := 68) (kd := .i64) (k := 18) (i := (r.length : Int) - 1) rfl (by kernel_rfl) (by kernel_rfl) (by kernel_rfl) (by kernel_rfl) (by omega) (by omega) (SlAt.ne (k := 18) (hO.row (List.mem_cons_of_mem _ List.mem_cons_self)) (fun _ => rfl) (by decide) (by (first | omega | (simp only [List.length_set, List.length_take, List.length_drop, List.length_append, List.length_cons, List.length_nil]; done) | (simp only [List.length_set, List.length_take, List.length_drop, List.length_append, List.length_cons, List.length_nil]; omega) | (simp only [List.length_set, List.length_take, List.length_drop, List.length_append, List.length_cons, List.length_nil] at *; omega)) : ((r.length : Int) - 1).toNat < r.length)))) hS ?_; clear hF; intro a hF
   refine Tk 7 rfl hF (ptV (nth r (((r.length : Int) - 1).toNat))) (fun Wx hO => x_load (p := .pointer (some ⟨(ab q), ao q + (((r.length : Int) - 1).toNat) * 18, none⟩)) rfl (by kernel_rfl) (run_loadEl (k := 18) (by kernel_rfl) (by kernel_rfl) (hO.row (List.mem_cons_of_mem _ List.mem_cons_self)) (fun _ => rfl) (by (first | omega | (simp only [List.length_set, List.length_take, List.length_drop, List.length_append, List.length_cons, List.length_nil]; done) | (simp only [List.length_set, List.length_take, List.length_drop, List.length_append, List.length_cons, List.length_nil]; omega) | (simp only [List.length_set, List.length_take, List.length_drop, List.length_append, List.length_cons, List.length_nil] at *; omega))) rfl)) hS ?_; clear hF; intro a hF
   refine Tk 8 rfl hF (.agg #[.bool (((nth S i).ip).six), .int .u8 ((((nth S i).ip).b0.toNat : Int)), .int .u8 ((((nth S i).ip).b1.toNat : Int)), .int .u8 ((((nth S i).ip).b2.toNat : Int)), .int .u8 ((((nth S i).ip).b3.toNat : Int)), .int .u8 ((((nth S i).ip).b4.toNat : Int)), .int .u8 ((((nth S i).ip).b5.toNat : Int)), .int .u8 ((((nth S i).ip).b6.toNat : Int)), .int .u8 ((((nth S i).ip).b7.toNat : Int)), .int .u8 ((((nth S i).ip).b8.toNat : Int)), .int .u8 ((((nth S i).ip).b9.toNat : Int)), .int .u8 ((((nth S i).ip).b10.toNat : Int)), .int .u8 ((((nth S i).ip).b11.toNat : Int)), .int .u8 ((((nth S i).ip).b12.toNat : Int)), .int .u8 ((((nth S i).ip).b13.toNat : Int)), .int .u8 ((((nth S i).ip).b14.toNat : Int)), .int .u8 ((((nth S i).ip).b15.toNat : Int)), .int .i64 ((nth S i).port)]) (fun Wx hO => x_load (p := .pointer (some ⟨b1, 0, none⟩)) rfl (by kernel_rfl) (run_loadA (k := 18) (by kernel_rfl) (by kernel_rfl) (hO.blk List.mem_cons_self) (by kernel_rfl) (by kernel_rfl))) hS ?_; clear hF; intro a hF
   refine A_one (i := 9) (listed' := #[true, true, true, true, true, true, true, true, true, true, false]) (by kernel_rfl) rfl (by kernel_rfl) ?_
   refine OpK.lc hF (cidr_Covers (nth r (((r.length : Int) - 1).toNat)) (nth S i) W5_d) ?_
   clear hF; rintro _ W6 a ⟨rfl, hk⟩ hF
   replace hO := hO.call0 hk; clear hk
   refine ⟨hO.sub (.cons_cons _ (.cons_cons _ (.cons_cons _ (List.nil_sublist _)))), ?_⟩
   have hS := hO.sub (.cons_cons _ (.cons_cons _ (.cons_cons _ (List.nil_sublist _))))
   refine Tk 10 rfl hF (.bool (covCd (nth r (((r.length : Int) - 1).toNat)) (nth S i))) (fun Wx _ => by kernel_rfl) hS ?_; clear hF; intro a hF
   refine A_done (by kernel_rfl) ?_
   refine hK13 _ _ ?_
   cases q4 : (covCd (nth r (((r.length : Int) - 1).toNat)) (nth S i) : Bool)
   ·
    replace hF := hF.know (d := 31) (v' := .bool false) (by kernel_rfl) (congrArg Value.bool q4)
    refine cond_f hF (by kernel_rfl) (by kernel_rfl) ?_
    refine wp_skip ?_
    refine hK11 _ _ ?_
    refine wp_region_lit ?_
    refine Vp hF (.slice q r.length qc) ?_; clear hF; intro a hF
    refine Vr hF (.agg #[.bool (((nth S i).ip).six), .int .u8 ((((nth S i).ip).b0.toNat : Int)), .int .u8 ((((nth S i).ip).b1.toNat : Int)), .int .u8 ((((nth S i).ip).b2.toNat : Int)), .int .u8 ((((nth S i).ip).b3.toNat : Int)), .int .u8 ((((nth S i).ip).b4.toNat : Int)), .int .u8 ((((nth S i).ip).b5.toNat : Int)), .int .u8 ((((nth S i).ip).b6.toNat : Int)), .int .u8 ((((nth S i).ip).b7.toNat : Int)), .int .u8 ((((nth S i).ip).b8.toNat : Int)), .int .u8 ((((nth S i).ip).b9.toNat : Int)), .int .u8 ((((nth S i).ip).b10.toNat : Int)), .int .u8 ((((nth S i).ip).b11.toNat : Int)), .int .u8 ((((nth S i).ip).b12.toNat : Int)), .int .u8 ((((nth S i).ip).b13.toNat : Int)), .int .u8 ((((nth S i).ip).b14.toNat : Int)), .int .u8 ((((nth S i).ip).b15.toNat : Int)), .int .i64 ((nth S i).port)]) (x_load (p := .pointer (some ⟨b1, 0, none⟩)) rfl (by kernel_rfl) (run_loadA (k := 18) (by kernel_rfl) (by kernel_rfl) (hO.blk List.mem_cons_self) (by kernel_rfl) (by kernel_rfl))) ?_; clear hF; intro a hF
    refine L_new hF hO (by kernel_rfl) (by kernel_rfl) (vf := fun b => .slice (some ⟨b, 0, none⟩) 1 1) (ob := .cells #[.bool (((nth S i).ip).six), .int .u8 ((((nth S i).ip).b0.toNat : Int)), .int .u8 ((((nth S i).ip).b1.toNat : Int)), .int .u8 ((((nth S i).ip).b2.toNat : Int)), .int .u8 ((((nth S i).ip).b3.toNat : Int)), .int .u8 ((((nth S i).ip).b4.toNat : Int)), .int .u8 ((((nth S i).ip).b5.toNat : Int)), .int .u8 ((((nth S i).ip).b6.toNat : Int)), .int .u8 ((((nth S i).ip).b7.toNat : Int)), .int .u8 ((((nth S i).ip).b8.toNat : Int)), .int .u8 ((((nth S i).ip).b9.toNat : Int)), .int .u8 ((((nth S i).ip).b10.toNat : Int)), .int .u8 ((((nth S i).ip).b11.toNat : Int)), .int .u8 ((((nth S i).ip).b12.toNat : Int)), .int .u8 ((((nth S i).ip).b13.toNat : Int)), .int .u8 ((((nth S i).ip).b14.toNat : Int)), .int .u8 ((((nth S i).ip).b15.toNat : Int)), .int .i64 ((nth S i).port)] 68) (by kernel_rfl) (by kernel_rfl) ?_
    clear hF hO; intro b2 W7 a hO hF
    obtain ⟨p1, cap1, W8, hap, hO1, -⟩ := run_append_row (P := Tryz.prog) (ty := 92) (t := 92) (z := .agg #[.bool false, .int .u8 0, .int .u8 0, .int .u8 0, .int .u8 0, .int .u8 0, .int .u8 0, .int .u8 0, .int .u8 0, .int .u8 0, .int .u8 0, .int .u8 0, .int .u8 0, .int .u8 0, .int .u8 0, .int .u8 0, .int .u8 0, .int .i64 0]) (k := 18) (bytes := 32) (q := some ⟨b2, 0, none⟩) (ys := ([(nth S i)] : List Pt)) (cq := 1) hO (.tail (.tail (.head _))) (by kernel_rfl) (by kernel_rfl) (by kernel_rfl) (by decide) (fun _ => rfl) (fun _ => rfl) (SlAt.blk hO List.mem_cons_self (by kernel_rfl)) (by (try simp only [List.length_append, List.length_take, List.length_drop, List.length_cons, List.length_nil, maxLen]); omega) (by (try simp only [List.length_append, List.length_take, List.length_drop, List.length_cons, List.length_nil, maxLen]); omega)
    refine L_valW hF (by kernel_rfl) (by kernel_rfl) (x_app hap rfl (by kernel_rfl) (by kernel_rfl) rfl) (by kernel_rfl) ?_
    clear hap hF; intro a hF; replace hO := hO1; clear hO1
    refine Vp hF (.slice p1 ((r ++ ([(nth S i)] : List Pt)).length) cap1) ?_; clear hF; intro a hF
    refine L_nil ?_
    refine block_normal ?_
    refine hK9 _ _ ?_
    refine wp_region_lit ?_
    refine Vr hF (.int .i64 ((i : Int) + 1)) (x_int (x := IntKind.i64.wrap ((i : Int) + 1)) (i64In (by omega) (by omega)) (by kernel_rfl)) ?_; clear hF; intro a hF
    refine Vp hF (.int .i64 ((i : Int) + 1)) ?_; clear hF; intro a hF
    refine L_nil ?_
    refine hK_1 ((i + 1, p1, cap1, r ++ ([(nth S i)] : List Pt))) _ _ (by first | omega | (dsimp only; omega)) ⟨(by dsimp only; exact sw_round hI (by omega) (by first | exact sweep_yes (by assumption) (by assumption) | exact sweep_no (.inl (by assumption)) | exact sweep_no (.inr (by assumption)))), ?_, ?_⟩
    · exact hF.restrict ⟨(by kernel_rfl), (congrArg some (by first | rfl | exact congrArg (Value.int _) (by omega) | simp)), (by kernel_rfl), (by kernel_rfl), (congrArg some (by first | rfl | exact congrArg (Value.int _) (by omega) | simp)), trivial⟩
    · exact hO.sub (.cons_cons _ (.cons _ (.cons _ (.cons_cons _ (List.nil_sublist _)))))
   ·
    replace hF := hF.know (d := 31) (v' := .bool true) (by kernel_rfl) (congrArg Value.bool q4)
    refine cond_t hF (by kernel_rfl) (by kernel_rfl) ?_
    refine wp_exit ?_
    refine then_exit ?_
    refine inBlock_hit ?_
    refine hK9 _ _ ?_
    refine wp_region_lit ?_
    refine Vr hF (.int .i64 ((i : Int) + 1)) (x_int (x := IntKind.i64.wrap ((i : Int) + 1)) (i64In (by omega) (by omega)) (by kernel_rfl)) ?_; clear hF; intro a hF
    refine Vp hF (.int .i64 ((i : Int) + 1)) ?_; clear hF; intro a hF
    refine L_nil ?_
    refine hK_1 ((i + 1, q, qc, r)) _ _ (by first | omega | (dsimp only; omega)) ⟨(by dsimp only; exact sw_round hI (by omega) (by first | exact sweep_yes (by assumption) (by assumption) | exact sweep_no (.inl (by assumption)) | exact sweep_no (.inr (by assumption)))), ?_, ?_⟩
    · exact hF.restrict ⟨(by kernel_rfl), (congrArg some (by first | rfl | exact congrArg (Value.int _) (by omega) | simp)), (by kernel_rfl), (by kernel_rfl), (congrArg some (by first | rfl | exact congrArg (Value.int _) (by omega) | simp)), trivial⟩
    · exact hO.sub (.cons _ (.cons_cons _ (.cons_cons _ (List.nil_sublist _))))
  ·
   replace hF := hF.know (d := 23) (v' := .bool false) (by kernel_rfl) (congrArg Value.bool (decide_eq_false q3))
   refine To 3 rfl hF hS ?_; clear hF; intro a hF
   refine To 4 rfl hF hS ?_; clear hF; intro a hF
   refine To 5 rfl hF hS ?_; clear hF; intro a hF
   refine To 6 rfl hF hS ?_; clear hF; intro a hF
   refine To 7 rfl hF hS ?_; clear hF; intro a hF
   refine To 8 rfl hF hS ?_; clear hF; intro a hF
   refine To 9 rfl hF hS ?_; clear hF; intro a hF
   refine Tk 10 rfl hF (.bool false) (fun Wx _ => by kernel_rfl) hS ?_; clear hF; intro a hF
   refine A_done (by kernel_rfl) ?_
   refine hK13 _ _ ?_
   refine cond_f hF (by kernel_rfl) (by kernel_rfl) ?_
   refine wp_skip ?_
   refine hK11 _ _ ?_
   refine wp_region_lit ?_
   refine Vp hF (.slice q r.length qc) ?_; clear hF; intro a hF
   refine Vr hF (.agg #[.bool (((nth S i).ip).six), .int .u8 ((((nth S i).ip).b0.toNat : Int)), .int .u8 ((((nth S i).ip).b1.toNat : Int)), .int .u8 ((((nth S i).ip).b2.toNat : Int)), .int .u8 ((((nth S i).ip).b3.toNat : Int)), .int .u8 ((((nth S i).ip).b4.toNat : Int)), .int .u8 ((((nth S i).ip).b5.toNat : Int)), .int .u8 ((((nth S i).ip).b6.toNat : Int)), .int .u8 ((((nth S i).ip).b7.toNat : Int)), .int .u8 ((((nth S i).ip).b8.toNat : Int)), .int .u8 ((((nth S i).ip).b9.toNat : Int)), .int .u8 ((((nth S i).ip).b10.toNat : Int)), .int .u8 ((((nth S i).ip).b11.toNat : Int)), .int .u8 ((((nth S i).ip).b12.toNat : Int)), .int .u8 ((((nth S i).ip).b13.toNat : Int)), .int .u8 ((((nth S i).ip).b14.toNat : Int)), .int .u8 ((((nth S i).ip).b15.toNat : Int)), .int .i64 ((nth S i).port)]) (x_load (p := .pointer (some ⟨b1, 0, none⟩)) rfl (by kernel_rfl) (run_loadA (k := 18) (by kernel_rfl) (by kernel_rfl) (hO.blk List.mem_cons_self) (by kernel_rfl) (by kernel_rfl))) ?_; clear hF; intro a hF
   refine L_new hF hO (by kernel_rfl) (by kernel_rfl) (vf := fun b => .slice (some ⟨b, 0, none⟩) 1 1) (ob := .cells #[.bool (((nth S i).ip).six), .int .u8 ((((nth S i).ip).b0.toNat : Int)), .int .u8 ((((nth S i).ip).b1.toNat : Int)), .int .u8 ((((nth S i).ip).b2.toNat : Int)), .int .u8 ((((nth S i).ip).b3.toNat : Int)), .int .u8 ((((nth S i).ip).b4.toNat : Int)), .int .u8 ((((nth S i).ip).b5.toNat : Int)), .int .u8 ((((nth S i).ip).b6.toNat : Int)), .int .u8 ((((nth S i).ip).b7.toNat : Int)), .int .u8 ((((nth S i).ip).b8.toNat : Int)), .int .u8 ((((nth S i).ip).b9.toNat : Int)), .int .u8 ((((nth S i).ip).b10.toNat : Int)), .int .u8 ((((nth S i).ip).b11.toNat : Int)), .int .u8 ((((nth S i).ip).b12.toNat : Int)), .int .u8 ((((nth S i).ip).b13.toNat : Int)), .int .u8 ((((nth S i).ip).b14.toNat : Int)), .int .u8 ((((nth S i).ip).b15.toNat : Int)), .int .i64 ((nth S i).port)] 68) (by kernel_rfl) (by kernel_rfl) ?_
   clear hF hO; intro b3 W9 a hO hF
   obtain ⟨p2, cap2, W10, hap, hO1, -⟩ := run_append_row (P := Tryz.prog) (ty := 92) (t := 92) (z := .agg #[.bool false, .int .u8 0, .int .u8 0, .int .u8 0, .int .u8 0, .int .u8 0, .int .u8 0, .int .u8 0, .int .u8 0, .int .u8 0, .int .u8 0, .int .u8 0, .int .u8 0, .int .u8 0, .int .u8 0, .int .u8 0, .int .u8 0, .int .i64 0]) (k := 18) (bytes := 32) (q := some ⟨b3, 0, none⟩) (ys := ([(nth S i)] : List Pt)) (cq := 1) hO (.tail (.tail (.head _))) (by kernel_rfl) (by kernel_rfl) (by kernel_rfl) (by decide) (fun _ => rfl) (fun _ => rfl) (SlAt.blk hO List.mem_cons_self (by kernel_rfl)) (by (try simp only [List.length_append, List.length_take, List.length_drop, List.length_cons, List.length_nil, maxLen]); omega) (by (try simp only [List.length_append, List.length_take, List.length_drop, List.length_cons, List.length_nil, maxLen]); omega)
   refine L_valW hF (by kernel_rfl) (by kernel_rfl) (x_app hap rfl (by kernel_rfl) (by kernel_rfl) rfl) (by kernel_rfl) ?_
   clear hap hF; intro a hF; replace hO := hO1; clear hO1
   refine Vp hF (.slice p2 ((r ++ ([(nth S i)] : List Pt)).length) cap2) ?_; clear hF; intro a hF
   refine L_nil ?_
   refine block_normal ?_
   refine hK9 _ _ ?_
   refine wp_region_lit ?_
   refine Vr hF (.int .i64 ((i : Int) + 1)) (x_int (x := IntKind.i64.wrap ((i : Int) + 1)) (i64In (by omega) (by omega)) (by kernel_rfl)) ?_; clear hF; intro a hF
   refine Vp hF (.int .i64 ((i : Int) + 1)) ?_; clear hF; intro a hF
   refine L_nil ?_
   refine hK_1 ((i + 1, p2, cap2, r ++ ([(nth S i)] : List Pt))) _ _ (by first | omega | (dsimp only; omega)) ⟨(by dsimp only; exact sw_round hI (by omega) (by first | exact sweep_yes (by assumption) (by assumption) | exact sweep_no (.inl (by assumption)) | exact sweep_no (.inr (by assumption)))), ?_, ?_⟩
   · exact hF.restrict ⟨(by kernel_rfl), (congrArg some (by first | rfl | exact congrArg (Value.int _) (by omega) | simp)), (by kernel_rfl), (by kernel_rfl), (congrArg some (by first | rfl | exact congrArg (Value.int _) (by omega) | simp)), trivial⟩
   · exact hO.sub (.cons_cons _ (.cons _ (.cons _ (.cons_cons _ (List.nil_sublist _)))))
 ·
  replace hF := hF.know (d := 16) (v' := .bool false) (by kernel_rfl) (congrArg Value.bool (decide_eq_false q2))
  refine cond_f hF (by kernel_rfl) (by kernel_rfl) ?_
  refine wp_exit ?_
  refine then_exit ?_
  refine then_exit ?_
  refine inBlock_hit ?_
  refine hK5 _ _ ?_
  refine wp_seq_k fun K14 hK14 => ?_
  refine wp_region_lit ?_
  refine Vp hF (.slice q r.length qc) ?_; clear hF; intro a hF
  refine Vp hF (.slice q r.length qc) ?_; clear hF; intro a hF
  refine L_nil ?_
  refine hK14 _ _ ?_
  refine wp_ret ?_
  refine ret1 hF (v := .slice q r.length qc) rfl (resT (by kernel_rfl)) (by (have he : r = mergeP l := (by have h1 := hI.2.1; rw [List.take_of_length_le (by omega)] at h1; rw [h1, ← hS]; rfl); exact ⟨_, _, by rw [← he], by rw [← he]; exact hO.sub (.cons_cons _ (List.nil_sublist _))⟩)) .ret (.inl rfl)

end Go.Proofs.YthellfigmpjhlaaGreatDoor
