/- Package api's errors: what is known of their variables, and '==' of two of them. -/
import Derived.Test.YthellfigmpjhlaaGreatDoorBase
import Derived.LaidEql
namespace Go.Proofs.YthellfigmpjhlaaGreatDoor
open Go Go.RowKit
set_option linter.unusedSimpArgs false
set_option linter.unusedVariables false
def errIs : List Nat := [0, 1, 2, 3, 4, 5, 6, 7, 8, 9, 10, 11, 12, 13, 14, 15, 16, 17]
def errVar : Nat → Nat := fun i => if i = 0 then 1 else if i = 1 then 2 else if i = 2 then 3 else if i = 3 then 4 else if i = 4 then 5 else if i = 5 then 6 else if i = 6 then 7 else if i = 7 then 8 else if i = 8 then 9 else if i = 9 then 10 else if i = 10 then 11 else if i = 11 then 12 else if i = 12 then 13 else if i = 13 then 14 else if i = 14 then 15 else if i = 15 then 16 else if i = 16 then 0 else if i = 17 then 17 else 0
structure Errs (I : List Nat) (ea : Nat → Addr) (W : World) : Prop where
  inj : ∀ i ∈ I, ∀ j ∈ I, ea i = ea j → i = j
  obj : ∀ i ∈ I, ∃ ca T, W.heap[(ea i).block]? = some (.cells ca T (0, 0))
  var : ∀ i ∈ I, W.cell? ⟨errVar i, 0, none⟩ = some (errV ea i)
theorem Errs.own {I : List Nat} {ea : Nat → Addr} {w0 W : World} {L : List Chunk} (h : Errs I ea w0) (hO : Own w0 noX L W) : Errs I ea W :=
  ⟨h.inj, (fun i hi => by
    obtain ⟨ca, T, hb⟩ := h.obj i hi
    refine ⟨ca, T, (hO.old _ ?_ (fun x => x)).trans hb⟩
    rcases Nat.lt_or_ge (ea i).block w0.heap.size with h' | h'
    · exact h'
    · rw [Array.getElem?_eq_none h'] at hb
      cases hb), fun i hi => hO.oldCell (lt_of_cell (h.var i hi)) (fun x => x) (h.var i hi)⟩
theorem Errs.sub {I J : List Nat} {ea : Nat → Addr} {W : World} (h : Errs I ea W) (hs : ∀ i ∈ J, i ∈ I) : Errs J ea W :=
  ⟨fun i hi j hj => h.inj i (hs i hi) j (hs j hj), fun i hi => h.obj i (hs i hi), fun i hi => h.var i (hs i hi)⟩
theorem Errs.load {I : List Nat} {ea : Nat → Addr} {w0 W : World} {L : List Chunk} (h : Errs I ea w0) (hO : Own w0 noX L W) (i g : Nat) (hi : I.contains i = true) (hg : errVar i = g) : (Instr.loadAt 24 (.pointer (some ⟨g, 0, none⟩))).run Tryz.prog W = .ok (errV ea i) W :=
  run_load1 (by kernel_rfl) (hg ▸ (h.own hO).var i (by simpa using hi))
theorem run_eqErr {I : List Nat} {ea : Nat → Addr} {W : World} (h : Errs I ea W) (i j : Nat) (hi : i ∈ I) (hj : j ∈ I) : (Op.equalIn Op.maxDepth 24 (errV ea i) (errV ea j)).run Tryz.prog W = .ok (decide (i = j)) W := by
  obtain ⟨k, hk, hz⟩ : ∃ k : TypeInfo, Tryz.prog.info? 226 = some k ∧ k.comparable = true := by
    have h1 : (Tryz.prog.info? 226).map (·.comparable) = some true := by kernel_rfl
    obtain ⟨k, hk, hz⟩ := Option.map_eq_some_iff.1 h1
    exact ⟨k, hk, hz⟩
  obtain ⟨m, hm, hs⟩ : ∃ m : TypeInfo, Tryz.prog.info? 228 = some m ∧ m.size = 1 := by
    have h1 : (Tryz.prog.info? 228).map (·.size) = some 1 := by kernel_rfl
    obtain ⟨k, hk, hz⟩ := Option.map_eq_some_iff.1 h1
    exact ⟨k, hk, hz⟩
  by_cases e : i = j
  · subst e
    rw [decide_eq_true rfl]
    exact run_equalIn_iface_ptr_same W 9998 (ea i) Tryz.underlying24 Tryz.underlying226 hk hz hm
  · rw [decide_eq_false e]
    obtain ⟨ca, ta, ha⟩ := h.obj i hi
    obtain ⟨cb, tb, hb⟩ := h.obj j hj
    exact run_equalIn_iface_ptr_other W 9998 Tryz.underlying24 Tryz.underlying226 hk hz hm (by rw [hs]; decide) (fun q => e (h.inj i hi j hj q)) ha hb
theorem x_eqErr {I : List Nat} {ea : Nat → Addr} {W : World} {o : Oper} {E : Env} {ax bx : Operand} {T' : TypeId} {i j : Nat} (h : Errs I ea W) (hi : i ∈ I) (hj : j ∈ I) (hop : o.op = .binOp .eql 24 ax bx T') (h1 : rho E ax = errV ea i) (h2 : rho E bx = errV ea j) :
    (execOp (rho E) o).run Tryz.prog W = .ok (.value (.bool (decide (i = j)))) W :=
  x_eq hop h1 h2 (by kernel_rfl) rfl (run_eqErr h i j hi hj)

set_option maxRecDepth 20000 in
theorem errors_is (I : List Nat) (ea : Nat → Addr) (i j : Nat) (W : World) (hE : Errs I ea W) (hi : i ∈ I) (hj : j ∈ I) : Ret Tryz.prog 122 #[errV ea i, errV ea j, .bool true] W fun v W' => v = .bool (decide (i = j)) ∧ Own W noX [] W' := by
 refine enter Tryz.func122 rfl (n := 54) rfl (by kernel_rfl) (E0 := [(2, .bool true), (1, errV ea j), (0, errV ea i)]) (by kernel_rfl) ?_
 intro a hF; have hO := Own.start W noX
 refine wp_seq_k fun K1 hK1 => ?_
 refine wp_region_lit ?_
 refine Vp hF (.bool false) ?_; clear hF; intro a hF
 refine L_nil ?_
 refine hK1 _ _ ?_
 refine wp_block ?_
 refine wp_loop_once ?_
 refine wp_block ?_
 refine wp_seq_k fun K2 hK2 => ?_
 refine wp_seq_k fun K3 hK3 => ?_
 refine wp_region_lit ?_
 refine Vp hF (.bool true) ?_; clear hF; intro a hF
 refine Vp hF (.bool true) ?_; clear hF; intro a hF
 refine Vp hF (errV ea i) ?_; clear hF; intro a hF
 refine Vp hF (errV ea j) ?_; clear hF; intro a hF
 refine Vr hF (.bool (decide (i = j))) (x_eqErr (i := i) (j := j) (hE.own hO) hi hj rfl (by kernel_rfl) (by kernel_rfl)) ?_; clear hF; intro a hF
 refine Vp hF (.bool (decide (i = j))) ?_; clear hF; intro a hF
 refine L_nil ?_
 refine hK3 _ _ ?_
 by_cases q1 : i = j
 ·
  replace hF := hF.know (d := 19) (v' := .bool true) (by kernel_rfl) (congrArg Value.bool (decide_eq_true q1))
  refine cond_t hF (by kernel_rfl) (by kernel_rfl) ?_
  refine wp_seq_k fun K4 hK4 => ?_
  refine wp_region_lit ?_
  refine Vp hF (.bool true) ?_; clear hF; intro a hF
  refine L_nil ?_
  refine hK4 _ _ ?_
  refine wp_ret ?_
  refine then_ret ?_
  refine block_ret ?_
  refine then_ret ?_
  refine block_ret ?_
  refine ret1 hF (v := .bool true) rfl (resT (by kernel_rfl)) (by refine ⟨?_, hO.nil⟩; simp [*]) .ret (.inl rfl)
 ·
  replace hF := hF.know (d := 19) (v' := .bool false) (by kernel_rfl) (congrArg Value.bool (decide_eq_false q1))
  refine cond_f hF (by kernel_rfl) (by kernel_rfl) ?_
  refine wp_skip ?_
  refine hK2 _ _ ?_
  refine wp_seq_k fun K5 hK5 => ?_
  refine wp_seq_k fun K6 hK6 => ?_
  refine wp_region_lit ?_
  refine Vp hF (errV ea i) ?_; clear hF; intro a hF
  refine Vr hF (.tuple #[.nilIface, .bool false]) (x_assertNo (x := .pointer (some (ea i))) (t := 226) rfl (by kernel_rfl) (run_typeAssert_lacksB Tryz.underlying164 (by kernel_rfl) (by kernel_rfl) _ _ _)) ?_; clear hF; intro a hF
  refine Vp hF (.tuple #[.nilIface, .bool false]) ?_; clear hF; intro a hF
  refine Vp hF (.nilIface) ?_; clear hF; intro a hF
  refine Vp hF (.bool false) ?_; clear hF; intro a hF
  refine Vp hF (.nilIface) ?_; clear hF; intro a hF
  refine Vp hF (.bool false) ?_; clear hF; intro a hF
  refine L_nil ?_
  refine hK6 _ _ ?_
  refine wp_seq_k fun K7 hK7 => ?_
  refine wp_region_lit ?_
  refine Vp hF (.bool false) ?_; clear hF; intro a hF
  refine Vp hF (.bool false) ?_; clear hF; intro a hF
  refine Lo hF ?_; clear hF; intro a hF
  refine Lo hF ?_; clear hF; intro a hF
  refine Lo hF ?_; clear hF; intro a hF
  refine Vp hF (.bool false) ?_; clear hF; intro a hF
  refine L_nil ?_
  refine hK7 _ _ ?_
  refine cond_f hF (by kernel_rfl) (by kernel_rfl) ?_
  refine wp_skip ?_
  refine hK5 _ _ ?_
  refine wp_seq_k fun K8 hK8 => ?_
  refine wp_region_lit ?_
  refine Vp hF (errV ea i) ?_; clear hF; intro a hF
  refine L_nil ?_
  refine hK8 _ _ ?_
  refine wp_block ?_
  refine wp_seq_k fun K9 hK9 => ?_
  refine wp_region_lit ?_
  refine Vr hF (.tuple #[.nilIface, .bool false]) (x_assertNo (x := .pointer (some (ea i))) (t := 226) rfl (by kernel_rfl) (run_typeAssert_lacksB Tryz.underlying167 (by kernel_rfl) (by kernel_rfl) _ _ _)) ?_; clear hF; intro a hF
  refine Vp hF (.bool false) ?_; clear hF; intro a hF
  refine Vp hF (.nilIface) ?_; clear hF; intro a hF
  refine L_nil ?_
  refine hK9 _ _ ?_
  refine cond_f hF (by kernel_rfl) (by kernel_rfl) ?_
  refine wp_seq_k fun K10 hK10 => ?_
  refine wp_region_lit ?_
  refine Vr hF (.tuple #[.nilIface, .bool false]) (x_assertNo (x := .pointer (some (ea i))) (t := 226) rfl (by kernel_rfl) (run_typeAssert_lacksB Tryz.underlying168 (by kernel_rfl) (by kernel_rfl) _ _ _)) ?_; clear hF; intro a hF
  refine Vp hF (.bool false) ?_; clear hF; intro a hF
  refine Vp hF (.nilIface) ?_; clear hF; intro a hF
  refine L_nil ?_
  refine hK10 _ _ ?_
  refine cond_f hF (by kernel_rfl) (by kernel_rfl) ?_
  refine wp_seq_k fun K11 hK11 => ?_
  refine wp_region_lit ?_
  refine Vp hF (errV ea i) ?_; clear hF; intro a hF
  refine L_nil ?_
  refine hK11 _ _ ?_
  refine wp_seq_k fun K12 hK12 => ?_
  refine wp_region_lit ?_
  refine Vp hF (.bool false) ?_; clear hF; intro a hF
  refine L_nil ?_
  refine hK12 _ _ ?_
  refine wp_ret ?_
  refine block_ret ?_
  refine block_ret ?_
  refine then_ret ?_
  refine block_ret ?_
  refine ret1 hF (v := .bool false) rfl (resT (by kernel_rfl)) (by refine ⟨?_, hO.nil⟩; simp [*]) .ret (.inl rfl)

set_option maxRecDepth 20000 in
theorem errors_Is (I : List Nat) (ea : Nat → Addr) (i j : Nat) (W : World) (hE : Errs I ea W) (hi : i ∈ I) (hj : j ∈ I) : Ret Tryz.prog 79 #[errV ea i, errV ea j] W fun v W' => v = .bool (decide (i = j)) ∧ Own W noX [] W' := by
 refine enter Tryz.func79 rfl (n := 22) rfl (by kernel_rfl) (E0 := [(1, errV ea j), (0, errV ea i)]) (by kernel_rfl) ?_
 intro a hF; have hO := Own.start W noX
 refine wp_seq_k fun K1 hK1 => ?_
 refine wp_region_lit ?_
 refine Vp hF (.bool false) ?_; clear hF; intro a hF
 refine L_nil ?_
 refine hK1 _ _ ?_
 refine wp_seq_k fun K2 hK2 => ?_
 refine wp_seq_k fun K3 hK3 => ?_
 refine wp_region_lit ?_
 refine Vp hF (errV ea i) ?_; clear hF; intro a hF
 refine Vp hF (.bool false) ?_; clear hF; intro a hF
 refine Vp hF (.bool false) ?_; clear hF; intro a hF
 refine Vp hF (errV ea j) ?_; clear hF; intro a hF
 refine Vp hF (.bool false) ?_; clear hF; intro a hF
 refine Vp hF (.bool false) ?_; clear hF; intro a hF
 refine L_nil ?_
 refine hK3 _ _ ?_
 refine cond_f hF (by kernel_rfl) (by kernel_rfl) ?_
 refine wp_skip ?_
 refine hK2 _ _ ?_
 refine wp_seq_k fun K4 hK4 => ?_
 refine wp_region_lit ?_
 refine Vp hF (errV ea j) ?_; clear hF; intro a hF
 refine Vp hF (.iface 162 (.agg #[.pointer (some ⟨27, 226, none⟩)])) ?_; clear hF; intro a hF
 refine Vp hF (.bool true) ?_; clear hF; intro a hF
 refine Vp hF (.bool true) ?_; clear hF; intro a hF
 refine L_nil ?_
 refine hK4 _ _ ?_
 refine wp_seq_k fun K5 hK5 => ?_
 refine wp_region_lit ?_
 refine Vp hF (errV ea i) ?_; clear hF; intro a hF
 refine Vp hF (errV ea j) ?_; clear hF; intro a hF
 refine Vp hF (.bool true) ?_; clear hF; intro a hF
 refine Lc hF (errors_is I ea i j W (hE.own hO) hi hj) ?_
 clear hF; rintro _ W1 a ⟨rfl, hk⟩ hF
 replace hO := hO.call0 hk; clear hk
 refine Vp hF (.bool (decide (i = j))) ?_; clear hF; intro a hF
 refine L_nil ?_
 refine hK5 _ _ ?_
 refine wp_ret ?_
 refine ret1 hF (v := .bool (decide (i = j))) rfl (resT (by kernel_rfl)) (by refine ⟨?_, hO.nil⟩; first | rfl | (simp [*]; done)) .ret (.inl rfl)

set_option maxRecDepth 20000 in
theorem num_nil  (W : World) : Ret Tryz.prog 21 #[.nilIface] W fun v W' => v = .int .i64 0 ∧ Own W noX [] W' := by
 refine enter Tryz.func21 rfl (n := 40) rfl (by kernel_rfl) (E0 := [(0, .nilIface)]) (by kernel_rfl) ?_
 intro a hF; have hO := Own.start W noX
 refine wp_seq_k fun K1 hK1 => ?_
 refine wp_region_lit ?_
 refine Vp hF (.int .i64 0) ?_; clear hF; intro a hF
 refine L_nil ?_
 refine hK1 _ _ ?_
 refine wp_seq_k fun K2 hK2 => ?_
 refine wp_seq_k fun K3 hK3 => ?_
 refine wp_region_lit ?_
 refine Vp hF (.nilIface) ?_; clear hF; intro a hF
 refine Vp hF (.bool true) ?_; clear hF; intro a hF
 refine L_nil ?_
 refine hK3 _ _ ?_
 refine cond_t hF (by kernel_rfl) (by kernel_rfl) ?_
 refine wp_seq_k fun K4 hK4 => ?_
 refine wp_region_lit ?_
 refine Vp hF (.int .i64 0) ?_; clear hF; intro a hF
 refine L_nil ?_
 refine hK4 _ _ ?_
 refine wp_ret ?_
 refine then_ret ?_
 refine ret1 hF (v := .int .i64 0) rfl (resT (by kernel_rfl)) (by refine ⟨?_, hO.nil⟩; first | rfl | (simp [*]; done)) .ret (.inl rfl)

theorem mem_errIs {i : Nat} (h : i < 18) : i ∈ errIs := by
  have : errIs = List.range 18 := by decide
  rw [this, List.mem_range]; exact h
theorem errs_at (ea : Nat → Addr) (k : Nat) (h : k < 18) : (#[errV ea 0, errV ea 1, errV ea 2, errV ea 3, errV ea 4, errV ea 5, errV ea 6, errV ea 7, errV ea 8, errV ea 9, errV ea 10, errV ea 11, errV ea 12, errV ea 13, errV ea 14, errV ea 15, errV ea 16, errV ea 17] : Array Value)[k]? = some (errV ea k) := by
  have : (#[errV ea 0, errV ea 1, errV ea 2, errV ea 3, errV ea 4, errV ea 5, errV ea 6, errV ea 7, errV ea 8, errV ea 9, errV ea 10, errV ea 11, errV ea 12, errV ea 13, errV ea 14, errV ea 15, errV ea 16, errV ea 17] : Array Value) = ((List.range 18).map (errV ea)).toArray := rfl
  rw [this]
  simp [h]

set_option maxRecDepth 20000 in
theorem num_err (ea : Nat → Addr) (i : Nat) (W : World) (hE : Errs errIs ea W) (hi : i < 18) : Ret Tryz.prog 21 #[errV ea i] W fun v W' => v = .int .i64 ((i : Int) + 1) ∧ Own W noX [] W' := by
 refine enter Tryz.func21 rfl (n := 40) rfl (by kernel_rfl) (E0 := [(0, errV ea i)]) (by kernel_rfl) ?_
 intro a hF; have hO := Own.start W noX
 refine wp_seq_k fun K1 hK1 => ?_
 refine wp_region_lit ?_
 refine Vp hF (.int .i64 0) ?_; clear hF; intro a hF
 refine L_nil ?_
 refine hK1 _ _ ?_
 refine wp_seq_k fun K2 hK2 => ?_
 refine wp_seq_k fun K3 hK3 => ?_
 refine wp_region_lit ?_
 refine Vp hF (errV ea i) ?_; clear hF; intro a hF
 refine Vp hF (.bool false) ?_; clear hF; intro a hF
 refine L_nil ?_
 refine hK3 _ _ ?_
 refine cond_f hF (by kernel_rfl) (by kernel_rfl) ?_
 refine wp_skip ?_
 refine hK2 _ _ ?_
 refine wp_seq_k fun K4 hK4 => ?_
 refine wp_region_lit ?_
 refine Vr hF (errV ea 0) (x_load (p := .pointer (some ⟨1, 0, none⟩)) rfl (by kernel_rfl) (hE.load hO 0 1 (by kernel_rfl) (by kernel_rfl))) ?_; clear hF; intro a hF
 refine Vr hF (errV ea 1) (x_load (p := .pointer (some ⟨2, 0, none⟩)) rfl (by kernel_rfl) (hE.load hO 1 2 (by kernel_rfl) (by kernel_rfl))) ?_; clear hF; intro a hF
 refine Vr hF (errV ea 2) (x_load (p := .pointer (some ⟨3, 0, none⟩)) rfl (by kernel_rfl) (hE.load hO 2 3 (by kernel_rfl) (by kernel_rfl))) ?_; clear hF; intro a hF
 refine Vr hF (errV ea 3) (x_load (p := .pointer (some ⟨4, 0, none⟩)) rfl (by kernel_rfl) (hE.load hO 3 4 (by kernel_rfl) (by kernel_rfl))) ?_; clear hF; intro a hF
 refine Vr hF (errV ea 4) (x_load (p := .pointer (some ⟨5, 0, none⟩)) rfl (by kernel_rfl) (hE.load hO 4 5 (by kernel_rfl) (by kernel_rfl))) ?_; clear hF; intro a hF
 refine Vr hF (errV ea 5) (x_load (p := .pointer (some ⟨6, 0, none⟩)) rfl (by kernel_rfl) (hE.load hO 5 6 (by kernel_rfl) (by kernel_rfl))) ?_; clear hF; intro a hF
 refine Vr hF (errV ea 6) (x_load (p := .pointer (some ⟨7, 0, none⟩)) rfl (by kernel_rfl) (hE.load hO 6 7 (by kernel_rfl) (by kernel_rfl))) ?_; clear hF; intro a hF
 refine Vr hF (errV ea 7) (x_load (p := .pointer (some ⟨8, 0, none⟩)) rfl (by kernel_rfl) (hE.load hO 7 8 (by kernel_rfl) (by kernel_rfl))) ?_; clear hF; intro a hF
 refine Vr hF (errV ea 8) (x_load (p := .pointer (some ⟨9, 0, none⟩)) rfl (by kernel_rfl) (hE.load hO 8 9 (by kernel_rfl) (by kernel_rfl))) ?_; clear hF; intro a hF
 refine Vr hF (errV ea 9) (x_load (p := .pointer (some ⟨10, 0, none⟩)) rfl (by kernel_rfl) (hE.load hO 9 10 (by kernel_rfl) (by kernel_rfl))) ?_; clear hF; intro a hF
 refine Vr hF (errV ea 10) (x_load (p := .pointer (some ⟨11, 0, none⟩)) rfl (by kernel_rfl) (hE.load hO 10 11 (by kernel_rfl) (by kernel_rfl))) ?_; clear hF; intro a hF
 refine Vr hF (errV ea 11) (x_load (p := .pointer (some ⟨12, 0, none⟩)) rfl (by kernel_rfl) (hE.load hO 11 12 (by kernel_rfl) (by kernel_rfl))) ?_; clear hF; intro a hF
 refine Vr hF (errV ea 12) (x_load (p := .pointer (some ⟨13, 0, none⟩)) rfl (by kernel_rfl) (hE.load hO 12 13 (by kernel_rfl) (by kernel_rfl))) ?_; clear hF; intro a hF
 refine Vr hF (errV ea 13) (x_load (p := .pointer (some ⟨14, 0, none⟩)) rfl (by kernel_rfl) (hE.load hO 13 14 (by kernel_rfl) (by kernel_rfl))) ?_; clear hF; intro a hF
 refine Vr hF (errV ea 14) (x_load (p := .pointer (some ⟨15, 0, none⟩)) rfl (by kernel_rfl) (hE.load hO 14 15 (by kernel_rfl) (by kernel_rfl))) ?_; clear hF; intro a hF
 refine Vr hF (errV ea 15) (x_load (p := .pointer (some ⟨16, 0, none⟩)) rfl (by kernel_rfl) (hE.load hO 15 16 (by kernel_rfl) (by kernel_rfl))) ?_; clear hF; intro a hF
 refine Vr hF (errV ea 16) (x_load (p := .pointer (some ⟨0, 0, none⟩)) rfl (by kernel_rfl) (hE.load hO 16 0 (by kernel_rfl) (by kernel_rfl))) ?_; clear hF; intro a hF
 refine Vr hF (errV ea 17) (x_load (p := .pointer (some ⟨17, 0, none⟩)) rfl (by kernel_rfl) (hE.load hO 17 17 (by kernel_rfl) (by kernel_rfl))) ?_; clear hF; intro a hF
 refine L_new hF hO (by kernel_rfl) (by kernel_rfl) (vf := fun b => .slice (some ⟨b, 0, none⟩) 18 18) (ob := .cells #[errV ea 0, errV ea 1, errV ea 2, errV ea 3, errV ea 4, errV ea 5, errV ea 6, errV ea 7, errV ea 8, errV ea 9, errV ea 10, errV ea 11, errV ea 12, errV ea 13, errV ea 14, errV ea 15, errV ea 16, errV ea 17] 24) (by kernel_rfl) (by kernel_rfl) ?_
 clear hF hO; intro b1 W1 a hO hF
 refine Vp hF (.slice (some ⟨b1, 0, none⟩) 18 18) ?_; clear hF; intro a hF
 refine L_nil ?_
 refine hK4 _ _ ?_
 refine wp_seq_k fun K5 hK5 => ?_
 refine wp_seq_k fun K6 hK6 => ?_
 refine wp_region_lit ?_
 refine Vp hF (.slice (some ⟨b1, 0, none⟩) 18 18) ?_; clear hF; intro a hF
 refine Vp hF (.int .i64 18) ?_; clear hF; intro a hF
 refine Vp hF (.int .i64 0) ?_; clear hF; intro a hF
 refine L_nil ?_
 refine hK6 _ _ ?_
 refine wp_block ?_
 refine loopX (τ := Nat) (fun (k : Nat) a Wx => (k ≤ i) ∧ Fr 40 a [(0, errV ea i), (27, .slice (some ⟨b1, 0, none⟩) 18 18), (28, .int .i64 18), (29, .int .i64 ((k : Int)))] ∧ Own W noX [.blk b1 (.cells #[errV ea 0, errV ea 1, errV ea 2, errV ea 3, errV ea 4, errV ea 5, errV ea 6, errV ea 7, errV ea 8, errV ea 9, errV ea 10, errV ea 11, errV ea 12, errV ea 13, errV ea 14, errV ea 15, errV ea 16, errV ea 17] 24 (0, 0))] Wx) (fun (k : Nat) => 18 - k) (0) ⟨Nat.zero_le _, ?_, ?_⟩ ?_
 · exact hF.restrict ⟨(by kernel_rfl), (by kernel_rfl), (by kernel_rfl), (congrArg some (by first | rfl | exact congrArg (Value.int _) (by omega) | simp)), trivial⟩
 · exact hO.sub (.cons_cons _ (List.nil_sublist _))
 clear hF hO; rintro k a Wl1 ⟨hI, hF, hO⟩ KhK_1 hK_1
 try dsimp only at hI
 refine wp_seq_k fun K7 hK7 => ?_
 refine wp_region_lit ?_
 refine Vp hF (.bool (decide ((k : Int) < 18))) ?_; clear hF; intro a hF
 refine L_nil ?_
 refine hK7 _ _ ?_
 refine wp_seq_k fun K8 hK8 => ?_
 by_cases q1 : (k : Int) < 18
 ·
  replace hF := hF.know (d := 30) (v' := .bool true) (by kernel_rfl) (congrArg Value.bool (decide_eq_true q1))
  refine cond_t hF (by kernel_rfl) (by kernel_rfl) ?_
  refine wp_skip ?_
  refine hK8 _ _ ?_
  refine wp_seq_k fun K9 hK9 => ?_
  refine wp_block ?_
  refine wp_seq_k fun K10 hK10 => ?_
  refine wp_region_lit ?_
  refine Vp hF (.int .i64 ((k : Int))) ?_; clear hF; intro a hF
  refine Vr hF (.pointer (some ⟨b1, k, none⟩)) (x_idxAddr1 (kd := .i64) (b := b1) (len := 18) (cap := 18) (i := k) rfl (by kernel_rfl) (by kernel_rfl) Tryz.underlying96 (by kernel_rfl) (by omega)) ?_; clear hF; intro a hF
  refine Vr hF (errV ea k) (x_load (p := .pointer (some ⟨b1, k, none⟩)) rfl (by kernel_rfl) (run_load1 (by kernel_rfl) ((hO.cell List.mem_cons_self).trans (errs_at ea k (by omega))))) ?_; clear hF; intro a hF
  refine Vp hF (.int .i64 ((k : Int))) ?_; clear hF; intro a hF
  refine Vp hF (errV ea k) ?_; clear hF; intro a hF
  refine L_nil ?_
  refine hK10 _ _ ?_
  refine wp_seq_k fun K11 hK11 => ?_
  refine wp_region_lit ?_
  refine Vp hF (errV ea i) ?_; clear hF; intro a hF
  refine Vp hF (errV ea k) ?_; clear hF; intro a hF
  refine Lc hF (errors_Is errIs ea i k Wl1 (hE.own hO) (mem_errIs (by omega)) (mem_errIs (by omega))) ?_
  clear hF; rintro _ W2 a ⟨rfl, hk⟩ hF
  replace hO := hO.call0 hk; clear hk
  refine L_nil ?_
  refine hK11 _ _ ?_
  by_cases q2 : i = k
  ·
   replace hF := hF.know (d := 36) (v' := .bool true) (by kernel_rfl) (congrArg Value.bool (decide_eq_true q2))
   refine cond_t hF (by kernel_rfl) (by kernel_rfl) ?_
   refine wp_seq_k fun K12 hK12 => ?_
   refine wp_region_lit ?_
   refine Vp hF (.int .i64 ((k : Int))) ?_; clear hF; intro a hF
   refine Vr hF (.int .i64 ((k : Int) + 1)) (x_int (x := IntKind.i64.wrap ((k : Int) + 1)) (i64In (by omega) (by omega)) (by kernel_rfl)) ?_; clear hF; intro a hF
   refine Vp hF (.int .i64 ((k : Int) + 1)) ?_; clear hF; intro a hF
   refine L_nil ?_
   refine hK12 _ _ ?_
   refine wp_ret ?_
   refine block_ret ?_
   refine then_ret ?_
   refine then_ret ?_
   refine block_ret ?_
   refine then_ret ?_
   refine ret1 hF (v := .int .i64 ((k : Int) + 1)) rfl (resT (by kernel_rfl)) (by refine ⟨?_, hO.nil⟩; first | ((have e : i = k := by assumption); subst e; rfl) | (exfalso; omega)) .ret (.inl rfl)
  ·
   replace hF := hF.know (d := 36) (v' := .bool false) (by kernel_rfl) (congrArg Value.bool (decide_eq_false q2))
   refine cond_f hF (by kernel_rfl) (by kernel_rfl) ?_
   refine wp_skip ?_
   refine block_normal ?_
   refine hK9 _ _ ?_
   refine wp_region_lit ?_
   refine Vr hF (.int .i64 ((k : Int) + 1)) (x_int (x := IntKind.i64.wrap ((k : Int) + 1)) (i64In (by omega) (by omega)) (by kernel_rfl)) ?_; clear hF; intro a hF
   refine Vp hF (.int .i64 ((k : Int) + 1)) ?_; clear hF; intro a hF
   refine L_nil ?_
   refine hK_1 (k + 1) _ _ (by omega) ⟨(by omega), ?_, ?_⟩
   · exact hF.restrict ⟨(by kernel_rfl), (by kernel_rfl), (by kernel_rfl), (congrArg some (by first | rfl | exact congrArg (Value.int _) (by omega) | simp)), trivial⟩
   · exact hO.sub (.cons_cons _ (List.nil_sublist _))
 ·
  replace hF := hF.know (d := 30) (v' := .bool false) (by kernel_rfl) (congrArg Value.bool (decide_eq_false q1))
  refine cond_f hF (by kernel_rfl) (by kernel_rfl) ?_
  refine wp_exit ?_
  refine then_exit ?_
  refine then_exit ?_
  refine inBlock_hit ?_
  refine hK5 _ _ ?_
  refine wp_seq_k fun K13 hK13 => ?_
  refine wp_region_lit ?_
  refine Vp hF (.int .i64 (-1)) ?_; clear hF; intro a hF
  refine L_nil ?_
  refine hK13 _ _ ?_
  refine wp_ret ?_
  refine ret1 hF (v := .int .i64 (-1)) rfl (resT (by kernel_rfl)) (by refine ⟨?_, hO.nil⟩; first | ((have e : i = k := by assumption); subst e; rfl) | (exfalso; omega)) .ret (.inl rfl)

end Go.Proofs.YthellfigmpjhlaaGreatDoor
