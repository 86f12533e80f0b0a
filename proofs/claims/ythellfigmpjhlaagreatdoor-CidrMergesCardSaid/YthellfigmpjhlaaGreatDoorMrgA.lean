/- Functions of package slices at cidrs, walked. -/
import Derived.Test.YthellfigmpjhlaaGreatDoorCidrR
import Derived.Test.YthellfigmpjhlaaGreatDoorCidrW
namespace Go.Proofs.YthellfigmpjhlaaGreatDoor
open Go Go.RowKit
set_option linter.unusedVariables false
set_option linter.unusedSimpArgs false
theorem lt_heap {W : World} {b : Nat} {o : Obj} (h : W.heap[b]? = some o) : b < W.heap.size := (Array.getElem?_eq_some_iff.1 h).1
/-- Where the first one is that is not right; -1: nowhere. -/
def IdxR (l : List Pt) (z : Int) : Prop := (z = -1 ∧ ∀ j, j < l.length → rightCd (nth l j) = true) ∨ ∃ i : Nat, z = (i : Int) ∧ i < l.length ∧ rightCd (nth l i) = false ∧ ∀ j, j < i → rightCd (nth l j) = true
/-- Where the first one is that contains an address; -1: nowhere. -/
def IdxC (x : Ip) (l : List Pt) (z : Int) : Prop := (z = -1 ∧ ∀ j, j < l.length → contCd (nth l j) x = false) ∨ ∃ i : Nat, z = (i : Int) ∧ i < l.length ∧ contCd (nth l i) x = true
theorem idx_next {α : Type} {f : α → Bool} {g : Nat → α} {i : Nat} {b : Bool} (h : ∀ j, j < i → f (g j) = b) (hi : f (g i) = b) : ∀ j, j < i + 1 → f (g j) = b := fun j hj => by
  rcases Nat.lt_or_ge j i with h' | h'
  · exact h j h'
  · obtain rfl : j = i := by omega
    exact hi
theorem any_of {x : Ip} {l : List Pt} {z : Int} (h : IdxC x l z) : decide (z ≥ 0) = l.any fun c => contCd c x := by
  rcases h with ⟨rfl, h⟩ | ⟨i, rfl, h1, h2⟩
  · rw [eq_comm, show decide ((-1 : Int) ≥ 0) = false from rfl, List.any_eq_false]
    intro c hc
    obtain ⟨j, hj, rfl⟩ := List.mem_iff_getElem.1 hc
    rw [← nth_eq hj, h j hj]; simp
  · rw [decide_eq_true (by omega), eq_comm, List.any_eq_true]
    exact ⟨nth l i, by rw [nth_eq h1]; exact List.getElem_mem _, h2⟩
theorem take_one (l : List Pt) (i : Nat) (h : i < l.length) : l.take (i + 1) = l.take i ++ [nth l i] := by rw [List.take_succ_eq_append_getElem h, nth_eq h]
structure DelI (l r : List Pt) (j k : Nat) : Prop where
  hjl : j ≤ l.length
  hkj : k < j
  len : r.length = l.length
  tk : r.take k = (l.take j).filter rightCd
  dr : r.drop j = l.drop j
theorem del_at {l r : List Pt} {j k : Nat} (h : DelI l r j k) (hj : j < l.length) : nth r j = nth l j := by
  have h1 := h.dr
  have hr : j < r.length := by rw [h.len]; exact hj
  rw [List.drop_eq_getElem_cons hr, List.drop_eq_getElem_cons hj] at h1
  rw [nth_eq hr, nth_eq hj]
  exact (List.cons.inj h1).1
theorem del_0 {l : List Pt} {i : Nat} (hi : i < l.length) (hb : rightCd (nth l i) = false) (ha : ∀ j, j < i → rightCd (nth l j) = true) : DelI l l (i + 1) i := by
  refine ⟨hi, by omega, rfl, ?_, rfl⟩
  rw [take_one l i hi, List.filter_append, List.filter_cons, hb]
  have : (l.take i).filter rightCd = l.take i := List.filter_eq_self.2 fun c hc => by
    obtain ⟨j, hj, rfl⟩ := List.mem_iff_getElem.1 hc
    rw [List.length_take] at hj
    rw [List.getElem_take, ← nth_eq (by omega)]
    exact ha j (by omega)
  rw [this]; simp
theorem del_keep {l r : List Pt} {j k : Nat} (h : DelI l r j k) (hj : j < l.length) (hr : rightCd (nth r j) = true) : DelI l (r.set k (nth r j)) (j + 1) (k + 1) := by
  have hl := h.len; have hkj := h.hkj
  refine ⟨hj, by omega, by rw [List.length_set]; exact hl, ?_, ?_⟩
  · rw [List.take_add_one, List.take_set_of_le (Nat.le_refl _), h.tk, List.getElem?_set, if_pos rfl, if_pos (by omega), take_one l j hj, List.filter_append, List.filter_cons, ← del_at h hj, hr]
    simp
  · rw [List.drop_set_of_lt (by omega), ← List.drop_drop (i := 1) (j := j), h.dr, List.drop_drop]
theorem del_skip {l r : List Pt} {j k : Nat} (h : DelI l r j k) (hj : j < l.length) (hr : rightCd (nth r j) = false) : DelI l r (j + 1) k := by
  have hkj := h.hkj
  refine ⟨hj, by omega, h.len, ?_, ?_⟩
  · rw [h.tk, take_one l j hj, List.filter_append, List.filter_cons, ← del_at h hj, hr]; simp
  · rw [← List.drop_drop (i := 1) (j := j), h.dr, List.drop_drop]
theorem del_end {l r : List Pt} {j k : Nat} (h : DelI l r j k) (hj : ¬ j < l.length) : r.take k = l.filter rightCd ∧ k ≤ r.length := by
  have h1 := h.hjl; have h2 := h.hkj; have h3 := h.len
  exact ⟨by rw [h.tk, List.take_of_length_le (by omega)], by omega⟩
theorem del_4 {l r : List Pt} {j k : Nat} (h : DelI l r j k) : DelI l r j k ∧ r.length = l.length ∧ k < j ∧ j ≤ l.length := ⟨h, h.len, h.hkj, h.hjl⟩
theorem del_none {l : List Pt} (h : ∀ j, j < l.length → rightCd (nth l j) = true) : l.filter rightCd = l := List.filter_eq_self.2 fun c hc => by
  obtain ⟨j, hj, rfl⟩ := List.mem_iff_getElem.1 hc
  rw [← nth_eq hj]
  exact h j hj

set_option maxRecDepth 20000 in
theorem merge_1 (c : Pt) (W : World) : Ret Tryz.prog 117 #[ptV c] W fun v W' => v = .bool (!(rightCd c)) ∧ Own W noX [] W' := by
 refine enter Tryz.func117 rfl (n := 6) rfl (by kernel_rfl) (E0 := [(0, ptV c)]) (by kernel_rfl) ?_
 intro a hF; have hO := Own.start W noX
 refine wp_seq_k fun K1 hK1 => ?_
 refine wp_region_lit ?_
 refine L_new hF hO (by kernel_rfl) (by kernel_rfl) (vf := fun b => .pointer (some ⟨b, 0, none⟩)) (ob := .cells #[.bool c.ip.six, .int .u8 ((c.ip.b0.toNat : Int)), .int .u8 ((c.ip.b1.toNat : Int)), .int .u8 ((c.ip.b2.toNat : Int)), .int .u8 ((c.ip.b3.toNat : Int)), .int .u8 ((c.ip.b4.toNat : Int)), .int .u8 ((c.ip.b5.toNat : Int)), .int .u8 ((c.ip.b6.toNat : Int)), .int .u8 ((c.ip.b7.toNat : Int)), .int .u8 ((c.ip.b8.toNat : Int)), .int .u8 ((c.ip.b9.toNat : Int)), .int .u8 ((c.ip.b10.toNat : Int)), .int .u8 ((c.ip.b11.toNat : Int)), .int .u8 ((c.ip.b12.toNat : Int)), .int .u8 ((c.ip.b13.toNat : Int)), .int .u8 ((c.ip.b14.toNat : Int)), .int .u8 ((c.ip.b15.toNat : Int)), .int .i64 (c.port)] 68) (by kernel_rfl) (by kernel_rfl) ?_
 clear hF hO; intro b1 W1 a hO hF
 refine Vp hF (.bool false) ?_; clear hF; intro a hF
 refine L_nil ?_
 refine hK1 _ _ ?_
 refine wp_seq_k fun K2 hK2 => ?_
 refine wp_region_lit ?_
 refine Vr hF (.agg #[.bool c.ip.six, .int .u8 ((c.ip.b0.toNat : Int)), .int .u8 ((c.ip.b1.toNat : Int)), .int .u8 ((c.ip.b2.toNat : Int)), .int .u8 ((c.ip.b3.toNat : Int)), .int .u8 ((c.ip.b4.toNat : Int)), .int .u8 ((c.ip.b5.toNat : Int)), .int .u8 ((c.ip.b6.toNat : Int)), .int .u8 ((c.ip.b7.toNat : Int)), .int .u8 ((c.ip.b8.toNat : Int)), .int .u8 ((c.ip.b9.toNat : Int)), .int .u8 ((c.ip.b10.toNat : Int)), .int .u8 ((c.ip.b11.toNat : Int)), .int .u8 ((c.ip.b12.toNat : Int)), .int .u8 ((c.ip.b13.toNat : Int)), .int .u8 ((c.ip.b14.toNat : Int)), .int .u8 ((c.ip.b15.toNat : Int)), .int .i64 (c.port)]) (x_load (p := .pointer (some ⟨b1, 0, none⟩)) rfl (by kernel_rfl) (run_loadA (k := 18) (by kernel_rfl) (by kernel_rfl) (hO.blk List.mem_cons_self) (by kernel_rfl) (by kernel_rfl))) ?_; clear hF; intro a hF
 refine Lc hF (cidr_Right c W1) ?_
 clear hF; rintro _ W2 a ⟨rfl, hk⟩ hF
 replace hO := hO.call0 hk; clear hk
 refine Vp hF (.bool (!(rightCd c))) ?_; clear hF; intro a hF
 refine Vp hF (.bool (!(rightCd c))) ?_; clear hF; intro a hF
 refine L_nil ?_
 refine hK2 _ _ ?_
 refine wp_ret ?_
 refine ret1 hF (v := .bool (!(rightCd c))) rfl (resT (by kernel_rfl)) (by refine ⟨?_, hO.nil⟩; rfl) .ret (.inl rfl)

set_option maxRecDepth 20000 in
theorem any_1 (c : Pt) (x : Ip) (ba : Nat) (W : World) (hb : W.heap[ba]? = some (.cells (ipL x).toArray 33 (0, 0))) : Ret Tryz.prog 120 #[ptV c, .pointer (some ⟨ba, 0, none⟩)] W fun v W' => v = .bool (contCd c x) ∧ Own W noX [] W' := by
 refine enter Tryz.func120 rfl (n := 7) rfl (by kernel_rfl) (E0 := [(1, .pointer (some ⟨ba, 0, none⟩)), (0, ptV c)]) (by kernel_rfl) ?_
 intro a hF; have hO := Own.start W noX
 refine wp_seq_k fun K1 hK1 => ?_
 refine wp_region_lit ?_
 refine L_new hF hO (by kernel_rfl) (by kernel_rfl) (vf := fun b => .pointer (some ⟨b, 0, none⟩)) (ob := .cells #[.bool c.ip.six, .int .u8 ((c.ip.b0.toNat : Int)), .int .u8 ((c.ip.b1.toNat : Int)), .int .u8 ((c.ip.b2.toNat : Int)), .int .u8 ((c.ip.b3.toNat : Int)), .int .u8 ((c.ip.b4.toNat : Int)), .int .u8 ((c.ip.b5.toNat : Int)), .int .u8 ((c.ip.b6.toNat : Int)), .int .u8 ((c.ip.b7.toNat : Int)), .int .u8 ((c.ip.b8.toNat : Int)), .int .u8 ((c.ip.b9.toNat : Int)), .int .u8 ((c.ip.b10.toNat : Int)), .int .u8 ((c.ip.b11.toNat : Int)), .int .u8 ((c.ip.b12.toNat : Int)), .int .u8 ((c.ip.b13.toNat : Int)), .int .u8 ((c.ip.b14.toNat : Int)), .int .u8 ((c.ip.b15.toNat : Int)), .int .i64 (c.port)] 68) (by kernel_rfl) (by kernel_rfl) ?_
 clear hF hO; intro b1 W1 a hO hF
 refine Vp hF (.bool false) ?_; clear hF; intro a hF
 refine L_nil ?_
 refine hK1 _ _ ?_
 refine wp_seq_k fun K2 hK2 => ?_
 refine wp_region_lit ?_
 refine Vr hF (.agg #[.bool c.ip.six, .int .u8 ((c.ip.b0.toNat : Int)), .int .u8 ((c.ip.b1.toNat : Int)), .int .u8 ((c.ip.b2.toNat : Int)), .int .u8 ((c.ip.b3.toNat : Int)), .int .u8 ((c.ip.b4.toNat : Int)), .int .u8 ((c.ip.b5.toNat : Int)), .int .u8 ((c.ip.b6.toNat : Int)), .int .u8 ((c.ip.b7.toNat : Int)), .int .u8 ((c.ip.b8.toNat : Int)), .int .u8 ((c.ip.b9.toNat : Int)), .int .u8 ((c.ip.b10.toNat : Int)), .int .u8 ((c.ip.b11.toNat : Int)), .int .u8 ((c.ip.b12.toNat : Int)), .int .u8 ((c.ip.b13.toNat : Int)), .int .u8 ((c.ip.b14.toNat : Int)), .int .u8 ((c.ip.b15.toNat : Int)), .int .i64 (c.port)]) (x_load (p := .pointer (some ⟨b1, 0, none⟩)) rfl (by kernel_rfl) (run_loadA (k := 18) (by kernel_rfl) (by kernel_rfl) (hO.blk List.mem_cons_self) (by kernel_rfl) (by kernel_rfl))) ?_; clear hF; intro a hF
 refine Vr hF (ipV x) (x_load (p := .pointer (some ⟨ba, 0, none⟩)) rfl (by kernel_rfl) (run_loadA (k := 17) (by kernel_rfl) (by kernel_rfl) ((hO.old ba (lt_heap hb) (fun x => x)).trans hb) (by kernel_rfl) (by kernel_rfl))) ?_; clear hF; intro a hF
 refine Lc hF (cidr_Contains c x W1) ?_
 clear hF; rintro _ W2 a ⟨rfl, hk⟩ hF
 replace hO := hO.call0 hk; clear hk
 refine Vp hF (.bool (contCd c x)) ?_; clear hF; intro a hF
 refine L_nil ?_
 refine hK2 _ _ ?_
 refine wp_ret ?_
 refine ret1 hF (v := .bool (contCd c x)) rfl (resT (by kernel_rfl)) (by refine ⟨?_, hO.nil⟩; rfl) .ret (.inl rfl)

set_option maxRecDepth 20000 in
theorem idx_right (p : Option Addr) (cap : Nat) (l : List Pt) (W : World) (hl : SlAt W p (l.flatMap ptL)) (hn : l.length ≤ 1000) : Ret Tryz.prog 153 #[.slice p l.length cap, .func (.func 117) #[] #[]] W fun v W' => (∃ z : Int, v = .int .i64 z ∧ IdxR l z) ∧ Own W noX [] W' := by
 refine enter Tryz.func153 rfl (n := 19) rfl (by kernel_rfl) (E0 := [(1, .func (.func 117) #[] #[]), (0, .slice p l.length cap)]) (by kernel_rfl) ?_
 intro a hF; have hO := Own.start W noX
 refine wp_seq_k fun K1 hK1 => ?_
 refine wp_region_lit ?_
 refine Vp hF (.int .i64 0) ?_; clear hF; intro a hF
 refine L_nil ?_
 refine hK1 _ _ ?_
 refine wp_seq_k fun K2 hK2 => ?_
 refine wp_seq_k fun K3 hK3 => ?_
 refine wp_region_lit ?_
 refine Vp hF (.slice p l.length cap) ?_; clear hF; intro a hF
 refine Vp hF (.int .i64 ((l.length : Int))) ?_; clear hF; intro a hF
 refine Vp hF (.int .i64 0) ?_; clear hF; intro a hF
 refine L_nil ?_
 refine hK3 _ _ ?_
 refine wp_block ?_
 refine loopX (τ := Nat) (fun (i : Nat) a Wx => (i ≤ l.length ∧ ∀ j, j < i → rightCd (nth l j) = true) ∧ Fr 19 a [(0, .slice p l.length cap), (1, .func (.func 117) #[] #[]), (7, .int .i64 ((l.length : Int))), (8, .int .i64 ((i : Int)))] ∧ Own W noX [] Wx) (fun (i : Nat) => l.length - i) (0) ⟨⟨Nat.zero_le _, fun j h => by omega⟩, ?_, ?_⟩ ?_
 · exact hF.restrict ⟨(by kernel_rfl), (by kernel_rfl), (by kernel_rfl), (congrArg some (by first | rfl | exact congrArg (Value.int _) (by omega) | simp)), trivial⟩
 · exact hO.sub (List.nil_sublist _)
 clear hF hO; rintro i a Wl1 ⟨hI, hF, hO⟩ KhK_1 hK_1
 try dsimp only at hI
 refine wp_seq_k fun K4 hK4 => ?_
 refine wp_region_lit ?_
 refine Vp hF (.bool (decide ((i : Int) < (l.length : Int)))) ?_; clear hF; intro a hF
 refine L_nil ?_
 refine hK4 _ _ ?_
 refine wp_seq_k fun K5 hK5 => ?_
 by_cases q1 : (i : Int) < (l.length : Int)
 ·
  replace hF := hF.know (d := 9) (v' := .bool true) (by kernel_rfl) (congrArg Value.bool (decide_eq_true q1))
  refine cond_t hF (by kernel_rfl) (by kernel_rfl) ?_
  refine wp_skip ?_
  refine hK5 _ _ ?_
  refine wp_seq_k fun K6 hK6 => ?_
  refine wp_block ?_
  refine wp_seq_k fun K7 hK7 => ?_
  refine wp_region_lit ?_
  refine Vp hF (.int .i64 ((i : Int))) ?_; clear hF; intro a hF
  refine Vp hF (.int .i64 ((i : Int))) ?_; clear hF; intro a hF
  refine L_nil ?_
  refine hK7 _ _ ?_
  refine wp_seq_k fun K8 hK8 => ?_
  refine wp_region_lit ?_
  refine Vp hF (.func (.func 117) #[] #[]) ?_; clear hF; intro a hF
  refine Vp hF (.slice p l.length cap) ?_; clear hF; intro a hF
  refine Vp hF (.int .i64 ((i : Int))) ?_; clear hF; intro a hF
  refine Vr hF (.pointer (some ⟨(ab p), ao p + i * 18, none⟩)) (x_idxAddrS (p := p) (len := l.length) (cap := cap) (elem := 68) (kd := .i64) (k := 18) (i := (i : Int)) rfl (by kernel_rfl) (by kernel_rfl) (by kernel_rfl) (by kernel_rfl) (by omega) (by omega) (SlAt.ne (k := 18) (hl.own hO) (fun _ => rfl) (by decide) (by (first | omega | (simp only [List.length_set, List.length_take, List.length_drop, List.length_append, List.length_cons, List.length_nil]; done) | (simp only [List.length_set, List.length_take, List.length_drop, List.length_append, List.length_cons, List.length_nil]; omega) | (simp only [List.length_set, List.length_take, List.length_drop, List.length_append, List.length_cons, List.length_nil] at *; omega)) : i < l.length))) ?_; clear hF; intro a hF
  refine Vr hF (ptV (nth l i)) (x_load (p := .pointer (some ⟨(ab p), ao p + i * 18, none⟩)) rfl (by kernel_rfl) (run_loadEl (k := 18) (by kernel_rfl) (by kernel_rfl) (hl.own hO) (fun _ => rfl) (by (first | omega | (simp only [List.length_set, List.length_take, List.length_drop, List.length_append, List.length_cons, List.length_nil]; done) | (simp only [List.length_set, List.length_take, List.length_drop, List.length_append, List.length_cons, List.length_nil]; omega) | (simp only [List.length_set, List.length_take, List.length_drop, List.length_append, List.length_cons, List.length_nil] at *; omega))) rfl)) ?_; clear hF; intro a hF
  refine Lc hF (merge_1 (nth l i) Wl1) ?_
  clear hF; rintro _ W1 a ⟨rfl, hk⟩ hF
  replace hO := hO.call0 hk; clear hk
  refine L_nil ?_
  refine hK8 _ _ ?_
  cases q2 : (rightCd (nth l i) : Bool)
  ·
   replace hF := hF.know (d := 16) (v' := .bool true) (by kernel_rfl) (congrArg Value.bool (notT q2))
   refine cond_t hF (by kernel_rfl) (by kernel_rfl) ?_
   refine wp_seq_k fun K9 hK9 => ?_
   refine wp_region_lit ?_
   refine Vp hF (.int .i64 ((i : Int))) ?_; clear hF; intro a hF
   refine Vp hF (.int .i64 ((i : Int))) ?_; clear hF; intro a hF
   refine L_nil ?_
   refine hK9 _ _ ?_
   refine wp_ret ?_
   refine block_ret ?_
   refine then_ret ?_
   refine then_ret ?_
   refine block_ret ?_
   refine then_ret ?_
   refine ret1 hF (v := .int .i64 ((i : Int))) rfl (resT (by kernel_rfl)) (by refine ⟨?_, hO.nil⟩; first | exact ⟨_, rfl, .inr ⟨i, rfl, by omega, by assumption, hI.2⟩⟩ | exact ⟨_, rfl, .inl ⟨rfl, fun j hj => hI.2 j (by omega)⟩⟩) .ret (.inl rfl)
  ·
   replace hF := hF.know (d := 16) (v' := .bool false) (by kernel_rfl) (congrArg Value.bool (notF q2))
   refine cond_f hF (by kernel_rfl) (by kernel_rfl) ?_
   refine wp_skip ?_
   refine block_normal ?_
   refine hK6 _ _ ?_
   refine wp_region_lit ?_
   refine Vr hF (.int .i64 ((i : Int) + 1)) (x_int (x := IntKind.i64.wrap ((i : Int) + 1)) (i64In (by omega) (by omega)) (by kernel_rfl)) ?_; clear hF; intro a hF
   refine Vp hF (.int .i64 ((i : Int) + 1)) ?_; clear hF; intro a hF
   refine L_nil ?_
   refine hK_1 (i + 1) _ _ (by first | omega | (dsimp only; omega)) ⟨⟨by omega, idx_next (f := rightCd) (g := nth l) hI.2 (by assumption)⟩, ?_, ?_⟩
   · exact hF.restrict ⟨(by kernel_rfl), (by kernel_rfl), (by kernel_rfl), (congrArg some (by first | rfl | exact congrArg (Value.int _) (by omega) | simp)), trivial⟩
   · exact hO.sub (List.nil_sublist _)
 ·
  replace hF := hF.know (d := 9) (v' := .bool false) (by kernel_rfl) (congrArg Value.bool (decide_eq_false q1))
  refine cond_f hF (by kernel_rfl) (by kernel_rfl) ?_
  refine wp_exit ?_
  refine then_exit ?_
  refine then_exit ?_
  refine inBlock_hit ?_
  refine hK2 _ _ ?_
  refine wp_seq_k fun K10 hK10 => ?_
  refine wp_region_lit ?_
  refine Vp hF (.int .i64 (-1)) ?_; clear hF; intro a hF
  refine L_nil ?_
  refine hK10 _ _ ?_
  refine wp_ret ?_
  refine ret1 hF (v := .int .i64 (-1)) rfl (resT (by kernel_rfl)) (by refine ⟨?_, hO.nil⟩; first | exact ⟨_, rfl, .inr ⟨i, rfl, by omega, by assumption, hI.2⟩⟩ | exact ⟨_, rfl, .inl ⟨rfl, fun j hj => hI.2 j (by omega)⟩⟩) .ret (.inl rfl)

set_option maxRecDepth 20000 in
theorem idx_cont (p : Option Addr) (cap : Nat) (l : List Pt) (x : Ip) (ba : Nat) (W : World) (hl : SlAt W p (l.flatMap ptL)) (hn : l.length ≤ 1000) (hb : W.heap[ba]? = some (.cells (ipL x).toArray 33 (0, 0))) : Ret Tryz.prog 153 #[.slice p l.length cap, .func (.func 120) #[] #[.pointer (some ⟨ba, 0, none⟩)]] W fun v W' => (∃ z : Int, v = .int .i64 z ∧ IdxC x l z) ∧ Own W noX [] W' := by
 refine enter Tryz.func153 rfl (n := 19) rfl (by kernel_rfl) (E0 := [(1, .func (.func 120) #[] #[.pointer (some ⟨ba, 0, none⟩)]), (0, .slice p l.length cap)]) (by kernel_rfl) ?_
 intro a hF; have hO := Own.start W noX
 refine wp_seq_k fun K1 hK1 => ?_
 refine wp_region_lit ?_
 refine Vp hF (.int .i64 0) ?_; clear hF; intro a hF
 refine L_nil ?_
 refine hK1 _ _ ?_
 refine wp_seq_k fun K2 hK2 => ?_
 refine wp_seq_k fun K3 hK3 => ?_
 refine wp_region_lit ?_
 refine Vp hF (.slice p l.length cap) ?_; clear hF; intro a hF
 refine Vp hF (.int .i64 ((l.length : Int))) ?_; clear hF; intro a hF
 refine Vp hF (.int .i64 0) ?_; clear hF; intro a hF
 refine L_nil ?_
 refine hK3 _ _ ?_
 refine wp_block ?_
 refine loopX (τ := Nat) (fun (i : Nat) a Wx => (i ≤ l.length ∧ ∀ j, j < i → contCd (nth l j) x = false) ∧ Fr 19 a [(0, .slice p l.length cap), (1, .func (.func 120) #[] #[.pointer (some ⟨ba, 0, none⟩)]), (7, .int .i64 ((l.length : Int))), (8, .int .i64 ((i : Int)))] ∧ Own W noX [] Wx) (fun (i : Nat) => l.length - i) (0) ⟨⟨Nat.zero_le _, fun j h => by omega⟩, ?_, ?_⟩ ?_
 · exact hF.restrict ⟨(by kernel_rfl), (by kernel_rfl), (by kernel_rfl), (congrArg some (by first | rfl | exact congrArg (Value.int _) (by omega) | simp)), trivial⟩
 · exact hO.sub (List.nil_sublist _)
 clear hF hO; rintro i a Wl1 ⟨hI, hF, hO⟩ KhK_1 hK_1
 try dsimp only at hI
 refine wp_seq_k fun K4 hK4 => ?_
 refine wp_region_lit ?_
 refine Vp hF (.bool (decide ((i : Int) < (l.length : Int)))) ?_; clear hF; intro a hF
 refine L_nil ?_
 refine hK4 _ _ ?_
 refine wp_seq_k fun K5 hK5 => ?_
 by_cases q1 : (i : Int) < (l.length : Int)
 ·
  replace hF := hF.know (d := 9) (v' := .bool true) (by kernel_rfl) (congrArg Value.bool (decide_eq_true q1))
  refine cond_t hF (by kernel_rfl) (by kernel_rfl) ?_
  refine wp_skip ?_
  refine hK5 _ _ ?_
  refine wp_seq_k fun K6 hK6 => ?_
  refine wp_block ?_
  refine wp_seq_k fun K7 hK7 => ?_
  refine wp_region_lit ?_
  refine Vp hF (.int .i64 ((i : Int))) ?_; clear hF; intro a hF
  refine Vp hF (.int .i64 ((i : Int))) ?_; clear hF; intro a hF
  refine L_nil ?_
  refine hK7 _ _ ?_
  refine wp_seq_k fun K8 hK8 => ?_
  refine wp_region_lit ?_
  refine Vp hF (.func (.func 120) #[] #[.pointer (some ⟨ba, 0, none⟩)]) ?_; clear hF; intro a hF
  refine Vp hF (.slice p l.length cap) ?_; clear hF; intro a hF
  refine Vp hF (.int .i64 ((i : Int))) ?_; clear hF; intro a hF
  refine Vr hF (.pointer (some ⟨(ab p), ao p + i * 18, none⟩)) (x_idxAddrS (p := p) (len := l.length) (cap := cap) (elem := 68) (kd := .i64) (k := 18) (i := (i : Int)) rfl (by kernel_rfl) (by kernel_rfl) (by kernel_rfl) (by kernel_rfl) (by omega) (by omega) (SlAt.ne (k := 18) (hl.own hO) (fun _ => rfl) (by decide) (by (first | omega | (simp only [List.length_set, List.length_take, List.length_drop, List.length_append, List.length_cons, List.length_nil]; done) | (simp only [List.length_set, List.length_take, List.length_drop, List.length_append, List.length_cons, List.length_nil]; omega) | (simp only [List.length_set, List.length_take, List.length_drop, List.length_append, List.length_cons, List.length_nil] at *; omega)) : i < l.length))) ?_; clear hF; intro a hF
  refine Vr hF (ptV (nth l i)) (x_load (p := .pointer (some ⟨(ab p), ao p + i * 18, none⟩)) rfl (by kernel_rfl) (run_loadEl (k := 18) (by kernel_rfl) (by kernel_rfl) (hl.own hO) (fun _ => rfl) (by (first | omega | (simp only [List.length_set, List.length_take, List.length_drop, List.length_append, List.length_cons, List.length_nil]; done) | (simp only [List.length_set, List.length_take, List.length_drop, List.length_append, List.length_cons, List.length_nil]; omega) | (simp only [List.length_set, List.length_take, List.length_drop, List.length_append, List.length_cons, List.length_nil] at *; omega))) rfl)) ?_; clear hF; intro a hF
  refine Lc hF (any_1 (nth l i) x ba Wl1 ((hO.old ba (lt_heap hb) (fun x => x)).trans hb)) ?_
  clear hF; rintro _ W1 a ⟨rfl, hk⟩ hF
  replace hO := hO.call0 hk; clear hk
  refine L_nil ?_
  refine hK8 _ _ ?_
  cases q2 : (contCd (nth l i) x : Bool)
  ·
   replace hF := hF.know (d := 16) (v' := .bool false) (by kernel_rfl) (congrArg Value.bool q2)
   refine cond_f hF (by kernel_rfl) (by kernel_rfl) ?_
   refine wp_skip ?_
   refine block_normal ?_
   refine hK6 _ _ ?_
   refine wp_region_lit ?_
   refine Vr hF (.int .i64 ((i : Int) + 1)) (x_int (x := IntKind.i64.wrap ((i : Int) + 1)) (i64In (by omega) (by omega)) (by kernel_rfl)) ?_; clear hF; intro a hF
   refine Vp hF (.int .i64 ((i : Int) + 1)) ?_; clear hF; intro a hF
   refine L_nil ?_
   refine hK_1 (i + 1) _ _ (by first | omega | (dsimp only; omega)) ⟨⟨by omega, idx_next (f := fun c => contCd c x) (g := nth l) hI.2 (by assumption)⟩, ?_, ?_⟩
   · exact hF.restrict ⟨(by kernel_rfl), (by kernel_rfl), (by kernel_rfl), (congrArg some (by first | rfl | exact congrArg (Value.int _) (by omega) | simp)), trivial⟩
   · exact hO.sub (List.nil_sublist _)
  ·
   replace hF := hF.know (d := 16) (v' := .bool true) (by kernel_rfl) (congrArg Value.bool q2)
   refine cond_t hF (by kernel_rfl) (by kernel_rfl) ?_
   refine wp_seq_k fun K9 hK9 => ?_
   refine wp_region_lit ?_
   refine Vp hF (.int .i64 ((i : Int))) ?_; clear hF; intro a hF
   refine Vp hF (.int .i64 ((i : Int))) ?_; clear hF; intro a hF
   refine L_nil ?_
   refine hK9 _ _ ?_
   refine wp_ret ?_
   refine block_ret ?_
   refine then_ret ?_
   refine then_ret ?_
   refine block_ret ?_
   refine then_ret ?_
   refine ret1 hF (v := .int .i64 ((i : Int))) rfl (resT (by kernel_rfl)) (by refine ⟨?_, hO.nil⟩; first | exact ⟨_, rfl, .inr ⟨i, rfl, by omega, by assumption⟩⟩ | exact ⟨_, rfl, .inl ⟨rfl, fun j hj => hI.2 j (by omega)⟩⟩) .ret (.inl rfl)
 ·
  replace hF := hF.know (d := 9) (v' := .bool false) (by kernel_rfl) (congrArg Value.bool (decide_eq_false q1))
  refine cond_f hF (by kernel_rfl) (by kernel_rfl) ?_
  refine wp_exit ?_
  refine then_exit ?_
  refine then_exit ?_
  refine inBlock_hit ?_
  refine hK2 _ _ ?_
  refine wp_seq_k fun K10 hK10 => ?_
  refine wp_region_lit ?_
  refine Vp hF (.int .i64 (-1)) ?_; clear hF; intro a hF
  refine L_nil ?_
  refine hK10 _ _ ?_
  refine wp_ret ?_
  refine ret1 hF (v := .int .i64 (-1)) rfl (resT (by kernel_rfl)) (by refine ⟨?_, hO.nil⟩; first | exact ⟨_, rfl, .inr ⟨i, rfl, by omega, by assumption⟩⟩ | exact ⟨_, rfl, .inl ⟨rfl, fun j hj => hI.2 j (by omega)⟩⟩) .ret (.inl rfl)

set_option maxRecDepth 20000 in
theorem contains_cd (p : Option Addr) (cap : Nat) (l : List Pt) (x : Ip) (ba : Nat) (W : World) (hl : SlAt W p (l.flatMap ptL)) (hn : l.length ≤ 1000) (hb : W.heap[ba]? = some (.cells (ipL x).toArray 33 (0, 0))) : Ret Tryz.prog 119 #[.slice p l.length cap, .func (.func 120) #[] #[.pointer (some ⟨ba, 0, none⟩)]] W fun v W' => v = .bool (l.any fun c => contCd c x) ∧ Own W noX [] W' := by
 refine enter Tryz.func119 rfl (n := 9) rfl (by kernel_rfl) (E0 := [(1, .func (.func 120) #[] #[.pointer (some ⟨ba, 0, none⟩)]), (0, .slice p l.length cap)]) (by kernel_rfl) ?_
 intro a hF; have hO := Own.start W noX
 refine wp_seq_k fun K1 hK1 => ?_
 refine wp_region_lit ?_
 refine Vp hF (.bool false) ?_; clear hF; intro a hF
 refine L_nil ?_
 refine hK1 _ _ ?_
 refine wp_seq_k fun K2 hK2 => ?_
 refine wp_region_lit ?_
 refine Vp hF (.slice p l.length cap) ?_; clear hF; intro a hF
 refine Vp hF (.func (.func 120) #[] #[.pointer (some ⟨ba, 0, none⟩)]) ?_; clear hF; intro a hF
 refine Lc hF (idx_cont (p) cap l x ba W (hl.own hO) (by (first | omega | (simp only [List.length_set, List.length_take, List.length_drop, List.length_append, List.length_cons, List.length_nil]; done) | (simp only [List.length_set, List.length_take, List.length_drop, List.length_append, List.length_cons, List.length_nil]; omega) | (simp only [List.length_set, List.length_take, List.length_drop, List.length_append, List.length_cons, List.length_nil] at *; omega))) ((hO.old ba (lt_heap hb) (fun x => x)).trans hb)) ?_
 clear hF; rintro _ W1 a ⟨⟨z1, rfl, hz1⟩, hk⟩ hF
 replace hO := hO.call0 hk; clear hk
 refine Vp hF (.bool (decide (z1 ≥ 0))) ?_; clear hF; intro a hF
 refine Vp hF (.bool (decide (z1 ≥ 0))) ?_; clear hF; intro a hF
 refine L_nil ?_
 refine hK2 _ _ ?_
 refine wp_ret ?_
 refine ret1 hF (v := .bool (decide (z1 ≥ 0))) rfl (resT (by kernel_rfl)) (by refine ⟨?_, hO.nil⟩; exact congrArg Value.bool (any_of hz1)) .ret (.inl rfl)

set_option maxRecDepth 20000 in
theorem cidr_Any (p : Option Addr) (cap : Nat) (l : List Pt) (x : Ip) (W : World) (hl : SlAt W p (l.flatMap ptL)) (hn : l.length ≤ 1000) : Ret Tryz.prog 78 #[.slice p l.length cap, ipV x] W fun v W' => v = .bool (l.any fun c => contCd c x) ∧ Own W noX [] W' := by
 refine enter Tryz.func78 rfl (n := 8) rfl (by kernel_rfl) (E0 := [(1, ipV x), (0, .slice p l.length cap)]) (by kernel_rfl) ?_
 intro a hF; have hO := Own.start W noX
 refine wp_seq_k fun K1 hK1 => ?_
 refine wp_region_lit ?_
 refine L_new hF hO (by kernel_rfl) (by kernel_rfl) (vf := fun b => .pointer (some ⟨b, 0, none⟩)) (ob := .cells #[.bool x.six, .int .u8 ((x.b0.toNat : Int)), .int .u8 ((x.b1.toNat : Int)), .int .u8 ((x.b2.toNat : Int)), .int .u8 ((x.b3.toNat : Int)), .int .u8 ((x.b4.toNat : Int)), .int .u8 ((x.b5.toNat : Int)), .int .u8 ((x.b6.toNat : Int)), .int .u8 ((x.b7.toNat : Int)), .int .u8 ((x.b8.toNat : Int)), .int .u8 ((x.b9.toNat : Int)), .int .u8 ((x.b10.toNat : Int)), .int .u8 ((x.b11.toNat : Int)), .int .u8 ((x.b12.toNat : Int)), .int .u8 ((x.b13.toNat : Int)), .int .u8 ((x.b14.toNat : Int)), .int .u8 ((x.b15.toNat : Int))] 33) (by kernel_rfl) (by kernel_rfl) ?_
 clear hF hO; intro b1 W1 a hO hF
 replace hO := hO.reblk (cs := #[.bool x.six, .int .u8 ((x.b0.toNat : Int)), .int .u8 ((x.b1.toNat : Int)), .int .u8 ((x.b2.toNat : Int)), .int .u8 ((x.b3.toNat : Int)), .int .u8 ((x.b4.toNat : Int)), .int .u8 ((x.b5.toNat : Int)), .int .u8 ((x.b6.toNat : Int)), .int .u8 ((x.b7.toNat : Int)), .int .u8 ((x.b8.toNat : Int)), .int .u8 ((x.b9.toNat : Int)), .int .u8 ((x.b10.toNat : Int)), .int .u8 ((x.b11.toNat : Int)), .int .u8 ((x.b12.toNat : Int)), .int .u8 ((x.b13.toNat : Int)), .int .u8 ((x.b14.toNat : Int)), .int .u8 ((x.b15.toNat : Int))]) (cs' := (ipL x).toArray) (by kernel_rfl) (.head _)
 refine Vp hF (.bool false) ?_; clear hF; intro a hF
 refine L_nil ?_
 refine hK1 _ _ ?_
 refine wp_seq_k fun K2 hK2 => ?_
 refine wp_region_lit ?_
 refine Vp hF (.slice p l.length cap) ?_; clear hF; intro a hF
 refine Vp hF (.func (.func 120) #[] #[.pointer (some ⟨b1, 0, none⟩)]) ?_; clear hF; intro a hF
 refine Lc hF (contains_cd (p) cap l x b1 W1 (hl.own hO) (by (first | omega | (simp only [List.length_set, List.length_take, List.length_drop, List.length_append, List.length_cons, List.length_nil]; done) | (simp only [List.length_set, List.length_take, List.length_drop, List.length_append, List.length_cons, List.length_nil]; omega) | (simp only [List.length_set, List.length_take, List.length_drop, List.length_append, List.length_cons, List.length_nil] at *; omega))) (hO.blk List.mem_cons_self)) ?_
 clear hF; rintro _ W2 a ⟨rfl, hk⟩ hF
 replace hO := hO.call0 hk; clear hk
 refine Vp hF (.bool (l.any fun c => contCd c x)) ?_; clear hF; intro a hF
 refine L_nil ?_
 refine hK2 _ _ ?_
 refine wp_ret ?_
 refine ret1 hF (v := .bool (l.any fun c => contCd c x)) rfl (resT (by kernel_rfl)) (by refine ⟨?_, hO.nil⟩; rfl) .ret (.inl rfl)

end Go.Proofs.YthellfigmpjhlaaGreatDoor
