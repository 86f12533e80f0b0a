import Derived.Test.YtkeialdhogfdjaaDoorSort
import Derived.Test.YtkeialdhogfdjaaDoorCompact
import Derived.Test.YtkeialdhogfdjaaDoorSortK
import Derived.Test.YtkeialdhogfdjaaDoorErrs
import Derived.Test.YtkeialdhogfdjaaDoorShelf
namespace Go.Proofs.YtkeialdhogfdjaaDoor
open Go Go.RowKit
set_option linter.unusedSimpArgs false
set_option linter.unusedVariables false

set_option maxRecDepth 20000 in
theorem ref05_Compare (k k2 : Key) (W : World) : Ret Tryd.prog 17 #[keyV k, keyV k2] W fun v W' => v = .int .i64 (cmpK k k2) ∧ Own W noX [] W' := by
  refine enter Tryd.func17 rfl (n := 27) rfl (by kernel_rfl) (E0 := [(1, keyV k2), (0, keyV k)]) (by kernel_rfl) ?_
  intro a hF; have hO := Own.start W noX
  refine wp_seq_k fun K1 hK1 => ?_
  refine wp_region_lit ?_
  refine L_new hF hO (by kernel_rfl) (by kernel_rfl) (vf := fun b => .pointer (some ⟨b, 0, none⟩)) (ob := .cells #[.string k.space, .string k.name] 23) (by kernel_rfl) (by kernel_rfl) ?_
  clear hF hO; intro b1 W1 a hO hF
  refine L_new hF hO (by kernel_rfl) (by kernel_rfl) (vf := fun b => .pointer (some ⟨b, 0, none⟩)) (ob := .cells #[.string k2.space, .string k2.name] 23) (by kernel_rfl) (by kernel_rfl) ?_
  clear hF hO; intro b2 W2 a hO hF
  refine L_val hF (by kernel_rfl) (by kernel_rfl) (v := .int .i64 0) (by kernel_rfl) (by kernel_rfl) ?_
  clear hF; intro a hF
  refine L_nil ?_
  refine hK1 _ _ ?_
  refine wp_seq_k fun K2 hK2 => ?_
  refine wp_seq_k fun K3 hK3 => ?_
  refine wp_region_lit ?_
  refine L_val hF (by kernel_rfl) (by kernel_rfl) (v := .pointer (some ⟨b1, 0, none⟩)) (by kernel_rfl) (by kernel_rfl) ?_
  clear hF; intro a hF
  refine L_val hF (by kernel_rfl) (by kernel_rfl) (v := .string k.space) (x_load (p := .pointer (some ⟨b1, 0, none⟩)) rfl (by kernel_rfl) (run_load1 (by kernel_rfl) ((hO.cell (List.mem_cons_of_mem _ List.mem_cons_self)).trans (by kernel_rfl)))) (by kernel_rfl) ?_
  clear hF; intro a hF
  refine L_val hF (by kernel_rfl) (by kernel_rfl) (v := .pointer (some ⟨b2, 0, none⟩)) (by kernel_rfl) (by kernel_rfl) ?_
  clear hF; intro a hF
  refine L_val hF (by kernel_rfl) (by kernel_rfl) (v := .string k2.space) (x_load (p := .pointer (some ⟨b2, 0, none⟩)) rfl (by kernel_rfl) (run_load1 (by kernel_rfl) ((hO.cell List.mem_cons_self).trans (by kernel_rfl)))) (by kernel_rfl) ?_
  clear hF; intro a hF
  refine L_val hF (by kernel_rfl) (by kernel_rfl) (v := .bool (strLt k.space k2.space)) (by kernel_rfl) (by kernel_rfl) ?_
  clear hF; intro a hF
  refine L_val hF (by kernel_rfl) (by kernel_rfl) (v := .bool (strLt k.space k2.space)) (by kernel_rfl) (by kernel_rfl) ?_
  clear hF; intro a hF
  cases q1 : (strLt k.space k2.space : Bool)
  ·
    replace hF := hF.know (d := 10) (v' := .bool false) (by kernel_rfl) (congrArg Value.bool q1)
    refine L_val hF (by kernel_rfl) (by kernel_rfl) (v := .pointer (some ⟨b1, 0, none⟩)) (by kernel_rfl) (by kernel_rfl) ?_
    clear hF; intro a hF
    refine L_val hF (by kernel_rfl) (by kernel_rfl) (v := .string k.space) (x_load (p := .pointer (some ⟨b1, 0, none⟩)) rfl (by kernel_rfl) (run_load1 (by kernel_rfl) ((hO.cell (List.mem_cons_of_mem _ List.mem_cons_self)).trans (by kernel_rfl)))) (by kernel_rfl) ?_
    clear hF; intro a hF
    refine L_val hF (by kernel_rfl) (by kernel_rfl) (v := .pointer (some ⟨b2, 0, none⟩)) (by kernel_rfl) (by kernel_rfl) ?_
    clear hF; intro a hF
    refine L_val hF (by kernel_rfl) (by kernel_rfl) (v := .string k2.space) (x_load (p := .pointer (some ⟨b2, 0, none⟩)) rfl (by kernel_rfl) (run_load1 (by kernel_rfl) ((hO.cell List.mem_cons_self).trans (by kernel_rfl)))) (by kernel_rfl) ?_
    clear hF; intro a hF
    refine L_val hF (by kernel_rfl) (by kernel_rfl) (v := .bool (strEq k.space k2.space)) (by kernel_rfl) (by kernel_rfl) ?_
    clear hF; intro a hF
    refine L_val hF (by kernel_rfl) (by kernel_rfl) (v := .bool (strEq k.space k2.space)) (by kernel_rfl) (by kernel_rfl) ?_
    clear hF; intro a hF
    by_cases q2 : k.space = k2.space
    ·
      replace hF := hF.know (d := 16) (v' := .bool true) (by kernel_rfl) (congrArg Value.bool (strEq_iff.2 q2))
      refine L_val hF (by kernel_rfl) (by kernel_rfl) (v := .pointer (some ⟨b1, 1, none⟩)) (by kernel_rfl) (by kernel_rfl) ?_
      clear hF; intro a hF
      refine L_val hF (by kernel_rfl) (by kernel_rfl) (v := .string k.name) (x_load (p := .pointer (some ⟨b1, 1, none⟩)) rfl (by kernel_rfl) (run_load1 (by kernel_rfl) ((hO.cell (List.mem_cons_of_mem _ List.mem_cons_self)).trans (by kernel_rfl)))) (by kernel_rfl) ?_
      clear hF; intro a hF
      refine L_val hF (by kernel_rfl) (by kernel_rfl) (v := .pointer (some ⟨b2, 1, none⟩)) (by kernel_rfl) (by kernel_rfl) ?_
      clear hF; intro a hF
      refine L_val hF (by kernel_rfl) (by kernel_rfl) (v := .string k2.name) (x_load (p := .pointer (some ⟨b2, 1, none⟩)) rfl (by kernel_rfl) (run_load1 (by kernel_rfl) ((hO.cell List.mem_cons_self).trans (by kernel_rfl)))) (by kernel_rfl) ?_
      clear hF; intro a hF
      refine L_val hF (by kernel_rfl) (by kernel_rfl) (v := .bool (strLt k.name k2.name)) (by kernel_rfl) (by kernel_rfl) ?_
      clear hF; intro a hF
      refine L_val hF (by kernel_rfl) (by kernel_rfl) (v := .bool (strLt k.name k2.name)) (by kernel_rfl) (by kernel_rfl) ?_
      clear hF; intro a hF
      refine L_val hF (by kernel_rfl) (by kernel_rfl) (v := .bool (strLt k.name k2.name)) (by kernel_rfl) (by kernel_rfl) ?_
      clear hF; intro a hF
      refine L_nil ?_
      refine hK3 _ _ ?_
      cases q3 : (strLt k.name k2.name : Bool)
      ·
        replace hF := hF.know (d := 23) (v' := .bool false) (by kernel_rfl) (congrArg Value.bool q3)
        refine cond_f hF (by kernel_rfl) (by kernel_rfl) ?_
        refine wp_skip ?_
        refine hK2 _ _ ?_
        refine wp_seq_k fun K4 hK4 => ?_
        refine wp_seq_k fun K5 hK5 => ?_
        refine wp_region_lit ?_
        refine L_val hF (by kernel_rfl) (by kernel_rfl) (v := .agg #[.string k.space, .string k.name]) (x_load (p := .pointer (some ⟨b1, 0, none⟩)) rfl (by kernel_rfl) (run_loadA (k := 2) (by kernel_rfl) (by kernel_rfl) (hO.blk (List.mem_cons_of_mem _ List.mem_cons_self)) (by kernel_rfl) (by kernel_rfl))) (by kernel_rfl) ?_
        clear hF; intro a hF
        refine L_val hF (by kernel_rfl) (by kernel_rfl) (v := .agg #[.string k2.space, .string k2.name]) (x_load (p := .pointer (some ⟨b2, 0, none⟩)) rfl (by kernel_rfl) (run_loadA (k := 2) (by kernel_rfl) (by kernel_rfl) (hO.blk List.mem_cons_self) (by kernel_rfl) (by kernel_rfl))) (by kernel_rfl) ?_
        clear hF; intro a hF
        refine L_val hF (by kernel_rfl) (by kernel_rfl) (v := .bool (decide (k = k2))) (x_eqKey (a := k) (b := k2) rfl (by kernel_rfl) (by kernel_rfl)) (by kernel_rfl) ?_
        clear hF; intro a hF
        refine L_nil ?_
        refine hK5 _ _ ?_
        by_cases q4 : k = k2
        ·
          replace hF := hF.know (d := 26) (v' := .bool true) (by kernel_rfl) (congrArg Value.bool (decide_eq_true q4))
          refine cond_t hF (by kernel_rfl) (by kernel_rfl) ?_
          refine wp_seq_k fun K6 hK6 => ?_
          refine wp_region_lit ?_
          refine L_val hF (by kernel_rfl) (by kernel_rfl) (v := .int .i64 0) (by kernel_rfl) (by kernel_rfl) ?_
          clear hF; intro a hF
          refine L_nil ?_
          refine hK6 _ _ ?_
          refine wp_ret ?_
          refine then_ret ?_
          -- way 1: ¬ strLt k.space k2.space; k.space = k2.space; ¬ strLt k.name k2.name; k = k2
          refine ret1 hF (v := .int .i64 0) rfl (resT (by kernel_rfl)) (by refine ⟨?_, hO.nil⟩; unfold cmpK lessK; simp [*, strEq_dec, strLt_self]) .ret (.inl rfl)
        ·
          replace hF := hF.know (d := 26) (v' := .bool false) (by kernel_rfl) (congrArg Value.bool (decide_eq_false q4))
          refine cond_f hF (by kernel_rfl) (by kernel_rfl) ?_
          refine wp_skip ?_
          refine hK4 _ _ ?_
          refine wp_seq_k fun K7 hK7 => ?_
          refine wp_region_lit ?_
          refine L_val hF (by kernel_rfl) (by kernel_rfl) (v := .int .i64 1) (by kernel_rfl) (by kernel_rfl) ?_
          clear hF; intro a hF
          refine L_nil ?_
          refine hK7 _ _ ?_
          refine wp_ret ?_
          -- way 2: ¬ strLt k.space k2.space; k.space = k2.space; ¬ strLt k.name k2.name; ¬ k = k2
          refine ret1 hF (v := .int .i64 1) rfl (resT (by kernel_rfl)) (by refine ⟨?_, hO.nil⟩; unfold cmpK lessK; simp [*, strEq_dec, strLt_self]) .ret (.inl rfl)
      ·
        replace hF := hF.know (d := 23) (v' := .bool true) (by kernel_rfl) (congrArg Value.bool q3)
        refine cond_t hF (by kernel_rfl) (by kernel_rfl) ?_
        refine wp_seq_k fun K8 hK8 => ?_
        refine wp_region_lit ?_
        refine L_val hF (by kernel_rfl) (by kernel_rfl) (v := .int .i64 (-1)) (by kernel_rfl) (by kernel_rfl) ?_
        clear hF; intro a hF
        refine L_nil ?_
        refine hK8 _ _ ?_
        refine wp_ret ?_
        refine then_ret ?_
        -- way 3: ¬ strLt k.space k2.space; k.space = k2.space; strLt k.name k2.name
        refine ret1 hF (v := .int .i64 (-1)) rfl (resT (by kernel_rfl)) (by refine ⟨?_, hO.nil⟩; unfold cmpK lessK; simp [*, strEq_dec, strLt_self]) .ret (.inl rfl)
    ·
      replace hF := hF.know (d := 16) (v' := .bool false) (by kernel_rfl) (congrArg Value.bool (strEq_false.2 q2))
      refine L_off hF (by kernel_rfl) (by kernel_rfl) ?_
      clear hF; intro a hF
      refine L_off hF (by kernel_rfl) (by kernel_rfl) ?_
      clear hF; intro a hF
      refine L_off hF (by kernel_rfl) (by kernel_rfl) ?_
      clear hF; intro a hF
      refine L_off hF (by kernel_rfl) (by kernel_rfl) ?_
      clear hF; intro a hF
      refine L_off hF (by kernel_rfl) (by kernel_rfl) ?_
      clear hF; intro a hF
      refine L_val hF (by kernel_rfl) (by kernel_rfl) (v := .bool false) (by kernel_rfl) (by kernel_rfl) ?_
      clear hF; intro a hF
      refine L_val hF (by kernel_rfl) (by kernel_rfl) (v := .bool false) (by kernel_rfl) (by kernel_rfl) ?_
      clear hF; intro a hF
      refine L_nil ?_
      refine hK3 _ _ ?_
      refine cond_f hF (by kernel_rfl) (by kernel_rfl) ?_
      refine wp_skip ?_
      refine hK2 _ _ ?_
      refine wp_seq_k fun K9 hK9 => ?_
      refine wp_seq_k fun K10 hK10 => ?_
      refine wp_region_lit ?_
      refine L_val hF (by kernel_rfl) (by kernel_rfl) (v := .agg #[.string k.space, .string k.name]) (x_load (p := .pointer (some ⟨b1, 0, none⟩)) rfl (by kernel_rfl) (run_loadA (k := 2) (by kernel_rfl) (by kernel_rfl) (hO.blk (List.mem_cons_of_mem _ List.mem_cons_self)) (by kernel_rfl) (by kernel_rfl))) (by kernel_rfl) ?_
      clear hF; intro a hF
      refine L_val hF (by kernel_rfl) (by kernel_rfl) (v := .agg #[.string k2.space, .string k2.name]) (x_load (p := .pointer (some ⟨b2, 0, none⟩)) rfl (by kernel_rfl) (run_loadA (k := 2) (by kernel_rfl) (by kernel_rfl) (hO.blk List.mem_cons_self) (by kernel_rfl) (by kernel_rfl))) (by kernel_rfl) ?_
      clear hF; intro a hF
      refine L_val hF (by kernel_rfl) (by kernel_rfl) (v := .bool (decide (k = k2))) (x_eqKey (a := k) (b := k2) rfl (by kernel_rfl) (by kernel_rfl)) (by kernel_rfl) ?_
      clear hF; intro a hF
      refine L_nil ?_
      refine hK10 _ _ ?_
      by_cases q5 : k = k2
      ·
        replace hF := hF.know (d := 26) (v' := .bool true) (by kernel_rfl) (congrArg Value.bool (decide_eq_true q5))
        refine cond_t hF (by kernel_rfl) (by kernel_rfl) ?_
        refine wp_seq_k fun K11 hK11 => ?_
        refine wp_region_lit ?_
        refine L_val hF (by kernel_rfl) (by kernel_rfl) (v := .int .i64 0) (by kernel_rfl) (by kernel_rfl) ?_
        clear hF; intro a hF
        refine L_nil ?_
        refine hK11 _ _ ?_
        refine wp_ret ?_
        refine then_ret ?_
        -- way 4: ¬ strLt k.space k2.space; ¬ k.space = k2.space; k = k2
        refine ret1 hF (v := .int .i64 0) rfl (resT (by kernel_rfl)) (by refine ⟨?_, hO.nil⟩; unfold cmpK lessK; simp [*, strEq_dec, strLt_self]) .ret (.inl rfl)
      ·
        replace hF := hF.know (d := 26) (v' := .bool false) (by kernel_rfl) (congrArg Value.bool (decide_eq_false q5))
        refine cond_f hF (by kernel_rfl) (by kernel_rfl) ?_
        refine wp_skip ?_
        refine hK9 _ _ ?_
        refine wp_seq_k fun K12 hK12 => ?_
        refine wp_region_lit ?_
        refine L_val hF (by kernel_rfl) (by kernel_rfl) (v := .int .i64 1) (by kernel_rfl) (by kernel_rfl) ?_
        clear hF; intro a hF
        refine L_nil ?_
        refine hK12 _ _ ?_
        refine wp_ret ?_
        -- way 5: ¬ strLt k.space k2.space; ¬ k.space = k2.space; ¬ k = k2
        refine ret1 hF (v := .int .i64 1) rfl (resT (by kernel_rfl)) (by refine ⟨?_, hO.nil⟩; unfold cmpK lessK; simp [*, strEq_dec, strLt_self]) .ret (.inl rfl)
  ·
    replace hF := hF.know (d := 10) (v' := .bool true) (by kernel_rfl) (congrArg Value.bool q1)
    refine L_off hF (by kernel_rfl) (by kernel_rfl) ?_
    clear hF; intro a hF
    refine L_off hF (by kernel_rfl) (by kernel_rfl) ?_
    clear hF; intro a hF
    refine L_off hF (by kernel_rfl) (by kernel_rfl) ?_
    clear hF; intro a hF
    refine L_off hF (by kernel_rfl) (by kernel_rfl) ?_
    clear hF; intro a hF
    refine L_off hF (by kernel_rfl) (by kernel_rfl) ?_
    clear hF; intro a hF
    refine L_off hF (by kernel_rfl) (by kernel_rfl) ?_
    clear hF; intro a hF
    refine L_off hF (by kernel_rfl) (by kernel_rfl) ?_
    clear hF; intro a hF
    refine L_off hF (by kernel_rfl) (by kernel_rfl) ?_
    clear hF; intro a hF
    refine L_off hF (by kernel_rfl) (by kernel_rfl) ?_
    clear hF; intro a hF
    refine L_off hF (by kernel_rfl) (by kernel_rfl) ?_
    clear hF; intro a hF
    refine L_off hF (by kernel_rfl) (by kernel_rfl) ?_
    clear hF; intro a hF
    refine L_off hF (by kernel_rfl) (by kernel_rfl) ?_
    clear hF; intro a hF
    refine L_val hF (by kernel_rfl) (by kernel_rfl) (v := .bool true) (by kernel_rfl) (by kernel_rfl) ?_
    clear hF; intro a hF
    refine L_nil ?_
    refine hK3 _ _ ?_
    refine cond_t hF (by kernel_rfl) (by kernel_rfl) ?_
    refine wp_seq_k fun K13 hK13 => ?_
    refine wp_region_lit ?_
    refine L_val hF (by kernel_rfl) (by kernel_rfl) (v := .int .i64 (-1)) (by kernel_rfl) (by kernel_rfl) ?_
    clear hF; intro a hF
    refine L_nil ?_
    refine hK13 _ _ ?_
    refine wp_ret ?_
    refine then_ret ?_
    -- way 6: strLt k.space k2.space
    refine ret1 hF (v := .int .i64 (-1)) rfl (resT (by kernel_rfl)) (by refine ⟨?_, hO.nil⟩; unfold cmpK lessK; simp [*, strEq_dec, strLt_self]) .ret (.inl rfl)

set_option maxRecDepth 20000 in
theorem ref05_Sort (p : Option Addr) (cap : Nat) (l : List Key) (W : World) (hl : SlAt W p (l.flatMap keyL)) (hn : l.length ≤ 1000) : Ret Tryd.prog 15 #[.slice p l.length cap] W fun v W' => ∃ q qc, v = .slice q ((l.foldl (insL cmpK) []).length) qc ∧ Own W noX [rowL keyL 2 23 q qc (l.foldl (insL cmpK) [])] W' := by
  refine enter Tryd.func15 rfl (n := 55) rfl (by kernel_rfl) (E0 := [(0, .slice p l.length cap)]) (by kernel_rfl) ?_
  intro a hF; have hO := Own.start W noX
  refine wp_seq_k fun K1 hK1 => ?_
  refine wp_region_lit ?_
  refine L_val hF (by kernel_rfl) (by kernel_rfl) (v := .slice none 0 0) (by kernel_rfl) (by kernel_rfl) ?_
  clear hF; intro a hF
  refine L_nil ?_
  refine hK1 _ _ ?_
  refine wp_seq_k fun K2 hK2 => ?_
  refine wp_region_lit ?_
  refine L_new hF hO (by kernel_rfl) (by kernel_rfl) (vf := fun b => .slice (some ⟨b, 0, none⟩) 0 0) (ob := .cells #[] 23) (by kernel_rfl) (by kernel_rfl) ?_
  clear hF hO; intro b1 W1 a hO hF
  refine L_val hF (by kernel_rfl) (by kernel_rfl) (v := .slice (some ⟨b1, 0, none⟩) 0 0) (by kernel_rfl) (by kernel_rfl) ?_
  clear hF; intro a hF
  refine L_nil ?_
  refine hK2 _ _ ?_
  refine wp_seq_k fun K3 hK3 => ?_
  refine wp_seq_k fun K4 hK4 => ?_
  refine wp_region_lit ?_
  refine L_val hF (by kernel_rfl) (by kernel_rfl) (v := .slice p l.length cap) (by kernel_rfl) (by kernel_rfl) ?_
  clear hF; intro a hF
  refine L_val hF (by kernel_rfl) (by kernel_rfl) (v := .int .i64 ((l.length : Int))) (by kernel_rfl) (by kernel_rfl) ?_
  clear hF; intro a hF
  refine L_val hF (by kernel_rfl) (by kernel_rfl) (v := .int .i64 0) (by kernel_rfl) (by kernel_rfl) ?_
  clear hF; intro a hF
  refine L_nil ?_
  refine hK4 _ _ ?_
  refine wp_block ?_
  replace hO := hO.asRow (k := 2) (cap := 0) keyL ([] : List Key) (.head _) (by decide) (by kernel_rfl) (by decide) (by kernel_rfl)
  refine loopX (τ := Nat × Option Addr × Nat × List Key) (fun (x : Nat × Option Addr × Nat × List Key) a Wx => (fun (i : Nat) (q : Option Addr) (qc : Nat) (r : List Key) => (i ≤ l.length ∧ r.length ≤ i ∧ r = (l.take i).foldl (insL cmpK) []) ∧ Fr 55 a [(2, .slice none 0 0), (3, .slice q r.length qc), (8, .slice p l.length cap), (9, .int .i64 ((l.length : Int))), (10, .int .i64 ((i : Int)))] ∧ Own W noX [rowL keyL 2 23 q qc r] Wx) (x.1) (x.2.1) (x.2.2.1) (x.2.2.2)) (fun (x : Nat × Option Addr × Nat × List Key) => (fun (i : Nat) (q : Option Addr) (qc : Nat) (r : List Key) => l.length - i) (x.1) (x.2.1) (x.2.2.1) (x.2.2.2)) ((0, some ⟨b1, 0, none⟩, 0, [])) ⟨⟨Nat.zero_le _, Nat.le_refl _, rfl⟩, ?_, ?_⟩ ?_
  · exact hF.restrict ⟨(by kernel_rfl), (congrArg some (by first | rfl | exact congrArg (Value.int _) (by omega) | simp)), (by kernel_rfl), (by kernel_rfl), (congrArg some (by first | rfl | exact congrArg (Value.int _) (by omega) | simp)), trivial⟩
  · exact hO.sub (.cons_cons _ (List.nil_sublist _))
  clear hF hO; rintro ⟨i, q, qc, r⟩ a Wl1 ⟨hI, hF, hO⟩ KhK_1 hK_1
  try dsimp only at hI
  refine wp_seq_k fun K5 hK5 => ?_
  refine wp_region_lit ?_
  refine L_val hF (by kernel_rfl) (by kernel_rfl) (v := .bool (decide ((i : Int) < (l.length : Int)))) (by kernel_rfl) (by kernel_rfl) ?_
  clear hF; intro a hF
  refine L_nil ?_
  refine hK5 _ _ ?_
  refine wp_seq_k fun K6 hK6 => ?_
  by_cases q1 : (i : Int) < (l.length : Int)
  ·
    replace hF := hF.know (d := 11) (v' := .bool true) (by kernel_rfl) (congrArg Value.bool (decide_eq_true q1))
    refine cond_t hF (by kernel_rfl) (by kernel_rfl) ?_
    refine wp_skip ?_
    refine hK6 _ _ ?_
    refine wp_seq_k fun K7 hK7 => ?_
    refine wp_block ?_
    refine wp_seq_k fun K8 hK8 => ?_
    refine wp_region_lit ?_
    refine L_val hF (by kernel_rfl) (by kernel_rfl) (v := .pointer (some ⟨(ab p), ao p + i * 2, none⟩)) (x_idxAddrS (p := p) (len := l.length) (cap := cap) (elem := 23) (kd := .i64) (k := 2) (i := (i : Int)) rfl (by kernel_rfl) (by kernel_rfl) (by kernel_rfl) (by kernel_rfl) (by omega) (by omega) (SlAt.ne (k := 2) (hl.own hO) (fun _ => rfl) (by decide) (by (first | omega | (simp only [List.length_set, List.length_take, List.length_drop, List.length_append, List.length_cons, List.length_nil]; done) | (simp only [List.length_set, List.length_take, List.length_drop, List.length_append, List.length_cons, List.length_nil]; omega) | (simp only [List.length_set, List.length_take, List.length_drop, List.length_append, List.length_cons, List.length_nil] at *; omega)) : i < l.length))) (by kernel_rfl) ?_
    clear hF; intro a hF
    refine L_val hF (by kernel_rfl) (by kernel_rfl) (v := keyV (nth l i)) (x_load (p := .pointer (some ⟨(ab p), ao p + i * 2, none⟩)) rfl (by kernel_rfl) (run_loadEl (k := 2) (by kernel_rfl) (by kernel_rfl) (hl.own hO) (fun _ => rfl) (by (first | omega | (simp only [List.length_set, List.length_take, List.length_drop, List.length_append, List.length_cons, List.length_nil]; done) | (simp only [List.length_set, List.length_take, List.length_drop, List.length_append, List.length_cons, List.length_nil]; omega) | (simp only [List.length_set, List.length_take, List.length_drop, List.length_append, List.length_cons, List.length_nil] at *; omega))) rfl)) (by kernel_rfl) ?_
    clear hF; intro a hF
    refine L_new hF hO (by kernel_rfl) (by kernel_rfl) (vf := fun b => .pointer (some ⟨b, 0, none⟩)) (ob := .cells #[.string (⟨#[]⟩ : ByteArray), .string (⟨#[]⟩ : ByteArray)] 23) (by kernel_rfl) (by kernel_rfl) ?_
    clear hF hO; intro b2 W2 a hO hF
    obtain ⟨W3, hst, hO1⟩ := run_storeAt (P := Tryd.prog) (k := 2) (T := 23) (off := 0) (v := keyV (nth l i)) (cs := #[.string (⟨#[]⟩ : ByteArray), .string (⟨#[]⟩ : ByteArray)]) (cs' := #[.string ((nth l i).space), .string ((nth l i).name)]) hO (by kernel_rfl) (by kernel_rfl) (by kernel_rfl) (Nat.le_of_ble_eq_true (by kernel_rfl)) (by kernel_rfl) (.head _)
    refine L_skip hF (by kernel_rfl) (by kernel_rfl) (x_store (p := .pointer (some ⟨b2, 0, none⟩)) (v := keyV (nth l i)) rfl (by kernel_rfl) (by kernel_rfl) hst) (by kernel_rfl) ?_
    clear hst hF; intro a hF; replace hO := hO1; clear hO1
    refine L_nil ?_
    refine hK8 _ _ ?_
    refine wp_seq_k fun K9 hK9 => ?_
    refine wp_region_lit ?_
    refine L_val hF (by kernel_rfl) (by kernel_rfl) (v := .slice q r.length qc) (by kernel_rfl) (by kernel_rfl) ?_
    clear hF; intro a hF
    refine L_val hF (by kernel_rfl) (by kernel_rfl) (v := .int .i64 ((r.length : Int))) (by kernel_rfl) (by kernel_rfl) ?_
    clear hF; intro a hF
    refine L_val hF (by kernel_rfl) (by kernel_rfl) (v := .int .i64 ((r.length : Int))) (by kernel_rfl) (by kernel_rfl) ?_
    clear hF; intro a hF
    refine L_nil ?_
    refine hK9 _ _ ?_
    refine wp_seq_k fun K10 hK10 => ?_
    refine wp_block ?_
    refine loopX (τ := Nat) (fun (at' : Nat) a Wx => (at' ≤ r.length ∧ ∀ j, at' ≤ j → j < r.length → cmpK (nth l i) (nth r j) < 0) ∧ Fr 55 a [(2, .slice none 0 0), (3, .slice q r.length qc), (5, .pointer (some ⟨b2, 0, none⟩)), (6, .int .i64 ((at' : Int))), (8, .slice p l.length cap), (9, .int .i64 ((l.length : Int))), (10, .int .i64 ((i : Int))), (11, .bool true), (12, .pointer (some ⟨(ab p), ao p + i * 2, none⟩)), (13, keyV (nth l i)), (14, .slice q r.length qc), (15, .int .i64 ((r.length : Int)))] ∧ Own W noX [.blk b2 (.cells #[.string ((nth l i).space), .string ((nth l i).name)] 23 (0, 0)), rowL keyL 2 23 q qc r] Wx) (fun (at' : Nat) => at') (r.length) ⟨⟨Nat.le_refl _, fun j h1 h2 => by omega⟩, ?_, ?_⟩ ?_
    · exact hF.restrict ⟨(by kernel_rfl), (by kernel_rfl), (by kernel_rfl), (congrArg some (by first | rfl | exact congrArg (Value.int _) (by omega) | simp)), (by kernel_rfl), (by kernel_rfl), (by kernel_rfl), (by kernel_rfl), (by kernel_rfl), (by kernel_rfl), (by kernel_rfl), (by kernel_rfl), trivial⟩
    · exact hO.sub (.cons_cons _ (.cons_cons _ (List.nil_sublist _)))
    clear hF hO; rintro at' a Wl2 ⟨hI2, hF, hO⟩ KhK_2 hK_2
    try dsimp only at hI2
    refine wp_seq_k fun K11 hK11 => ?_
    refine wp_seq_k fun K12 hK12 => ?_
    refine A_start (fun Wx => Own W noX [.blk b2 (.cells #[.string ((nth l i).space), .string ((nth l i).name)] 23 (0, 0)), rowL keyL 2 23 q qc r] Wx) (by kernel_rfl) ?_
    replace hO := hO.drewN 1
    generalize hWd : ({ Wl2 with drawn := Wl2.drawn + 1 } : World) = Wl2_d at hO ⊢; clear hWd
    refine A_take (i := 0) (listed' := #[true, false, false, false, false, false, false, false, false, false, false, false]) rfl (by kernel_rfl) (by kernel_rfl) (by kernel_rfl) (by kernel_rfl) hF (by kernel_rfl) (by kernel_rfl) (v := .int .i64 ((at' : Int))) (fun Wx _ => by kernel_rfl) (by kernel_rfl) (hO.sub (.cons_cons _ (.cons_cons _ (List.nil_sublist _)))) ?_
    clear hF; intro a hF
    refine A_take (i := 1) (listed' := #[true, true, false, false, false, false, false, false, false, false, false, false]) rfl (by kernel_rfl) (by kernel_rfl) (by kernel_rfl) (by kernel_rfl) hF (by kernel_rfl) (by kernel_rfl) (v := .bool (decide ((at' : Int) > 0))) (fun Wx _ => by kernel_rfl) (by kernel_rfl) (hO.sub (.cons_cons _ (.cons_cons _ (List.nil_sublist _)))) ?_
    clear hF; intro a hF
    refine A_take (i := 2) (listed' := #[true, true, true, false, false, false, false, false, false, false, false, false]) rfl (by kernel_rfl) (by kernel_rfl) (by kernel_rfl) (by kernel_rfl) hF (by kernel_rfl) (by kernel_rfl) (v := .bool (decide ((at' : Int) > 0))) (fun Wx _ => by kernel_rfl) (by kernel_rfl) (hO.sub (.cons_cons _ (.cons_cons _ (List.nil_sublist _)))) ?_
    clear hF; intro a hF
    by_cases q2 : (at' : Int) > 0
    ·
      replace hF := hF.know (d := 18) (v' := .bool true) (by kernel_rfl) (congrArg Value.bool (decide_eq_true q2))
      refine A_take (i := 3) (listed' := #[true, true, true, true, false, false, false, false, false, false, false, false]) rfl (by kernel_rfl) (by kernel_rfl) (by kernel_rfl) (by kernel_rfl) hF (by kernel_rfl) (by kernel_rfl) (v := .agg #[.string ((nth l i).space), .string ((nth l i).name)]) (fun Wx hO => x_load (p := .pointer (some ⟨b2, 0, none⟩)) rfl (by kernel_rfl) (run_loadA (k := 2) (by kernel_rfl) (by kernel_rfl) (hO.blk List.mem_cons_self) (by kernel_rfl) (by kernel_rfl))) (by kernel_rfl) (hO.sub (.cons_cons _ (.cons_cons _ (List.nil_sublist _)))) ?_
      clear hF; intro a hF
      refine A_take (i := 4) (listed' := #[true, true, true, true, true, false, false, false, false, false, false, false]) rfl (by kernel_rfl) (by kernel_rfl) (by kernel_rfl) (by kernel_rfl) hF (by kernel_rfl) (by kernel_rfl) (v := .slice q r.length qc) (fun Wx _ => by kernel_rfl) (by kernel_rfl) (hO.sub (.cons_cons _ (.cons_cons _ (List.nil_sublist _)))) ?_
      clear hF; intro a hF
      refine A_take (i := 5) (listed' := #[true, true, true, true, true, true, false, false, false, false, false, false]) rfl (by kernel_rfl) (by kernel_rfl) (by kernel_rfl) (by kernel_rfl) hF (by kernel_rfl) (by kernel_rfl) (v := .int .i64 ((at' : Int))) (fun Wx _ => by kernel_rfl) (by kernel_rfl) (hO.sub (.cons_cons _ (.cons_cons _ (List.nil_sublist _)))) ?_
      clear hF; intro a hF
      refine A_take (i := 6) (listed' := #[true, true, true, true, true, true, true, false, false, false, false, false]) rfl (by kernel_rfl) (by kernel_rfl) (by kernel_rfl) (by kernel_rfl) hF (by kernel_rfl) (by kernel_rfl) (v := .int .i64 ((at' : Int) - 1)) (fun Wx _ => (x_int (x := IntKind.i64.wrap ((at' : Int) - 1)) (i64In (by omega) (by omega)) (by kernel_rfl))) (by kernel_rfl) (hO.sub (.cons_cons _ (.cons_cons _ (List.nil_sublist _)))) ?_
      clear hF; intro a hF
      refine A_take (i := 7) (listed' := #[true, true, true, true, true, true, true, true, false, false, false, false]) rfl (by kernel_rfl) (by kernel_rfl) (by kernel_rfl) (by kernel_rfl) hF (by kernel_rfl) (by kernel_rfl) (v := .pointer (some ⟨(ab q), ao q + (((at' : Int) - 1).toNat) * 2, none⟩)) (fun Wx _ => (x_idxAddrS (p := q) (len := r.length) (cap := qc) (elem := 23) (kd := .i64) (k := 2) (i := (at' : Int) - 1) rfl (by kernel_rfl) (by kernel_rfl) (by kernel_rfl) (by kernel_rfl) (by omega) (by omega) (SlAt.ne (k := 2) (hO.row (List.mem_cons_of_mem _ List.mem_cons_self)) (fun _ => rfl) (by decide) (by (first | omega | (simp only [List.length_set, List.length_take, List.length_drop, List.length_append, List.length_cons, List.length_nil]; done) | (simp only [List.length_set, List.length_take, List.length_drop, List.length_append, List.length_cons, List.length_nil]; omega) | (simp only [List.length_set, List.length_take, List.length_drop, List.length_append, List.length_cons, List.length_nil] at *; omega)) : ((at' : Int) - 1).toNat < r.length)))) (by kernel_rfl) (hO.sub (.cons_cons _ (.cons_cons _ (List.nil_sublist _)))) ?_
      clear hF; intro a hF
      refine A_take (i := 8) (listed' := #[true, true, true, true, true, true, true, true, true, false, false, false]) rfl (by kernel_rfl) (by kernel_rfl) (by kernel_rfl) (by kernel_rfl) hF (by kernel_rfl) (by kernel_rfl) (v := keyV (nth r (((at' : Int) - 1).toNat))) (fun Wx hO => x_load (p := .pointer (some ⟨(ab q), ao q + (((at' : Int) - 1).toNat) * 2, none⟩)) rfl (by kernel_rfl) (run_loadEl (k := 2) (by kernel_rfl) (by kernel_rfl) (hO.row (List.mem_cons_of_mem _ List.mem_cons_self)) (fun _ => rfl) (by (first | omega | (simp only [List.length_set, List.length_take, List.length_drop, List.length_append, List.length_cons, List.length_nil]; done) | (simp only [List.length_set, List.length_take, List.length_drop, List.length_append, List.length_cons, List.length_nil]; omega) | (simp only [List.length_set, List.length_take, List.length_drop, List.length_append, List.length_cons, List.length_nil] at *; omega))) rfl)) (by kernel_rfl) (hO.sub (.cons_cons _ (.cons_cons _ (List.nil_sublist _)))) ?_
      clear hF; intro a hF
      refine A_one (i := 9) (listed' := #[true, true, true, true, true, true, true, true, true, true, false, false]) (by kernel_rfl) rfl (by kernel_rfl) ?_
      refine OpK.call hF (by kernel_rfl) (by kernel_rfl) (by kernel_rfl) (by kernel_rfl) (ref05_Compare (nth l i) (nth r (((at' : Int) - 1).toNat)) Wl2_d) ?_
      clear hF; rintro _ W4 a ⟨rfl, hk⟩ hF
      replace hO := hO.call0 hk; clear hk
      refine ⟨hO.sub (.cons_cons _ (.cons_cons _ (List.nil_sublist _))), ?_⟩
      refine A_take (i := 10) (listed' := #[true, true, true, true, true, true, true, true, true, true, true, false]) rfl (by kernel_rfl) (by kernel_rfl) (by kernel_rfl) (by kernel_rfl) hF (by kernel_rfl) (by kernel_rfl) (v := .bool (decide ((cmpK (nth l i) (nth r (((at' : Int) - 1).toNat))) < 0))) (fun Wx _ => by kernel_rfl) (by kernel_rfl) (hO.sub (.cons_cons _ (.cons_cons _ (List.nil_sublist _)))) ?_
      clear hF; intro a hF
      refine A_take (i := 11) (listed' := #[true, true, true, true, true, true, true, true, true, true, true, true]) rfl (by kernel_rfl) (by kernel_rfl) (by kernel_rfl) (by kernel_rfl) hF (by kernel_rfl) (by kernel_rfl) (v := .bool (decide ((cmpK (nth l i) (nth r (((at' : Int) - 1).toNat))) < 0))) (fun Wx _ => by kernel_rfl) (by kernel_rfl) (hO.sub (.cons_cons _ (.cons_cons _ (List.nil_sublist _)))) ?_
      clear hF; intro a hF
      refine A_done (by kernel_rfl) ?_
      refine hK12 _ _ ?_
      by_cases q3 : (cmpK (nth l i) (nth r (((at' : Int) - 1).toNat))) < 0
      ·
        replace hF := hF.know (d := 27) (v' := .bool true) (by kernel_rfl) (congrArg Value.bool (decide_eq_true q3))
        refine cond_t hF (by kernel_rfl) (by kernel_rfl) ?_
        refine wp_skip ?_
        refine hK11 _ _ ?_
        refine wp_block ?_
        refine wp_region_lit ?_
        refine L_val hF (by kernel_rfl) (by kernel_rfl) (v := .int .i64 ((at' : Int))) (by kernel_rfl) (by kernel_rfl) ?_
        clear hF; intro a hF
        refine L_val hF (by kernel_rfl) (by kernel_rfl) (v := .int .i64 ((at' : Int) - 1)) (x_int (x := IntKind.i64.wrap ((at' : Int) - 1)) (i64In (by omega) (by omega)) (by kernel_rfl)) (by kernel_rfl) ?_
        clear hF; intro a hF
        refine L_val hF (by kernel_rfl) (by kernel_rfl) (v := .int .i64 ((at' : Int) - 1)) (by kernel_rfl) (by kernel_rfl) ?_
        clear hF; intro a hF
        refine L_nil ?_
        refine block_normal ?_
        refine hK_2 (at' - 1) _ _ (by first | omega | (dsimp only; omega)) ⟨⟨by omega, atRound (by omega) hI2.2 (by assumption)⟩, ?_, ?_⟩
        · exact hF.restrict ⟨(by kernel_rfl), (by kernel_rfl), (by kernel_rfl), (congrArg some (by first | rfl | exact congrArg (Value.int _) (by omega) | simp)), (by kernel_rfl), (by kernel_rfl), (by kernel_rfl), (by kernel_rfl), (by kernel_rfl), (by kernel_rfl), (by kernel_rfl), (by kernel_rfl), trivial⟩
        · exact hO.sub (.cons_cons _ (.cons_cons _ (List.nil_sublist _)))
      ·
        replace hF := hF.know (d := 27) (v' := .bool false) (by kernel_rfl) (congrArg Value.bool (decide_eq_false q3))
        refine cond_f hF (by kernel_rfl) (by kernel_rfl) ?_
        refine wp_exit ?_
        refine then_exit ?_
        refine then_exit ?_
        refine inBlock_hit ?_
        refine hK10 _ _ ?_
        refine wp_seq_k fun K13 hK13 => ?_
        refine wp_seq_k fun K14 hK14 => ?_
        refine A_start (fun Wx => Own W noX [.blk b2 (.cells #[.string ((nth l i).space), .string ((nth l i).name)] 23 (0, 0)), rowL keyL 2 23 q qc r] Wx) (by kernel_rfl) ?_
        replace hO := hO.drewN 1
        generalize hWd : ({ W4 with drawn := W4.drawn + 1 } : World) = W4_d at hO ⊢; clear hWd
        refine A_take (i := 0) (listed' := #[true, false, false, false, false, false, false, false, false, false, false]) rfl (by kernel_rfl) (by kernel_rfl) (by kernel_rfl) (by kernel_rfl) hF (by kernel_rfl) (by kernel_rfl) (v := .int .i64 ((at' : Int))) (fun Wx _ => by kernel_rfl) (by kernel_rfl) (hO.sub (.cons_cons _ (.cons_cons _ (List.nil_sublist _)))) ?_
        clear hF; intro a hF
        refine A_take (i := 1) (listed' := #[true, true, false, false, false, false, false, false, false, false, false]) rfl (by kernel_rfl) (by kernel_rfl) (by kernel_rfl) (by kernel_rfl) hF (by kernel_rfl) (by kernel_rfl) (v := .bool (decide ((at' : Int) > 0))) (fun Wx _ => by kernel_rfl) (by kernel_rfl) (hO.sub (.cons_cons _ (.cons_cons _ (List.nil_sublist _)))) ?_
        clear hF; intro a hF
        refine A_take (i := 2) (listed' := #[true, true, true, false, false, false, false, false, false, false, false]) rfl (by kernel_rfl) (by kernel_rfl) (by kernel_rfl) (by kernel_rfl) hF (by kernel_rfl) (by kernel_rfl) (v := .bool (decide ((at' : Int) > 0))) (fun Wx _ => by kernel_rfl) (by kernel_rfl) (hO.sub (.cons_cons _ (.cons_cons _ (List.nil_sublist _)))) ?_
        clear hF; intro a hF
        by_cases q4 : (at' : Int) > 0
        ·
          replace hF := hF.know (d := 32) (v' := .bool true) (by kernel_rfl) (congrArg Value.bool (decide_eq_true q4))
          refine A_take (i := 3) (listed' := #[true, true, true, true, false, false, false, false, false, false, false]) rfl (by kernel_rfl) (by kernel_rfl) (by kernel_rfl) (by kernel_rfl) hF (by kernel_rfl) (by kernel_rfl) (v := .slice q r.length qc) (fun Wx _ => by kernel_rfl) (by kernel_rfl) (hO.sub (.cons_cons _ (.cons_cons _ (List.nil_sublist _)))) ?_
          clear hF; intro a hF
          refine A_take (i := 4) (listed' := #[true, true, true, true, true, false, false, false, false, false, false]) rfl (by kernel_rfl) (by kernel_rfl) (by kernel_rfl) (by kernel_rfl) hF (by kernel_rfl) (by kernel_rfl) (v := .int .i64 ((at' : Int))) (fun Wx _ => by kernel_rfl) (by kernel_rfl) (hO.sub (.cons_cons _ (.cons_cons _ (List.nil_sublist _)))) ?_
          clear hF; intro a hF
          refine A_take (i := 5) (listed' := #[true, true, true, true, true, true, false, false, false, false, false]) rfl (by kernel_rfl) (by kernel_rfl) (by kernel_rfl) (by kernel_rfl) hF (by kernel_rfl) (by kernel_rfl) (v := .int .i64 ((at' : Int) - 1)) (fun Wx _ => (x_int (x := IntKind.i64.wrap ((at' : Int) - 1)) (i64In (by omega) (by omega)) (by kernel_rfl))) (by kernel_rfl) (hO.sub (.cons_cons _ (.cons_cons _ (List.nil_sublist _)))) ?_
          clear hF; intro a hF
          refine A_take (i := 6) (listed' := #[true, true, true, true, true, true, true, false, false, false, false]) rfl (by kernel_rfl) (by kernel_rfl) (by kernel_rfl) (by kernel_rfl) hF (by kernel_rfl) (by kernel_rfl) (v := .pointer (some ⟨(ab q), ao q + (((at' : Int) - 1).toNat) * 2, none⟩)) (fun Wx _ => (x_idxAddrS (p := q) (len := r.length) (cap := qc) (elem := 23) (kd := .i64) (k := 2) (i := (at' : Int) - 1) rfl (by kernel_rfl) (by kernel_rfl) (by kernel_rfl) (by kernel_rfl) (by omega) (by omega) (SlAt.ne (k := 2) (hO.row (List.mem_cons_of_mem _ List.mem_cons_self)) (fun _ => rfl) (by decide) (by (first | omega | (simp only [List.length_set, List.length_take, List.length_drop, List.length_append, List.length_cons, List.length_nil]; done) | (simp only [List.length_set, List.length_take, List.length_drop, List.length_append, List.length_cons, List.length_nil]; omega) | (simp only [List.length_set, List.length_take, List.length_drop, List.length_append, List.length_cons, List.length_nil] at *; omega)) : ((at' : Int) - 1).toNat < r.length)))) (by kernel_rfl) (hO.sub (.cons_cons _ (.cons_cons _ (List.nil_sublist _)))) ?_
          clear hF; intro a hF
          refine A_take (i := 7) (listed' := #[true, true, true, true, true, true, true, true, false, false, false]) rfl (by kernel_rfl) (by kernel_rfl) (by kernel_rfl) (by kernel_rfl) hF (by kernel_rfl) (by kernel_rfl) (v := keyV (nth r (((at' : Int) - 1).toNat))) (fun Wx hO => x_load (p := .pointer (some ⟨(ab q), ao q + (((at' : Int) - 1).toNat) * 2, none⟩)) rfl (by kernel_rfl) (run_loadEl (k := 2) (by kernel_rfl) (by kernel_rfl) (hO.row (List.mem_cons_of_mem _ List.mem_cons_self)) (fun _ => rfl) (by (first | omega | (simp only [List.length_set, List.length_take, List.length_drop, List.length_append, List.length_cons, List.length_nil]; done) | (simp only [List.length_set, List.length_take, List.length_drop, List.length_append, List.length_cons, List.length_nil]; omega) | (simp only [List.length_set, List.length_take, List.length_drop, List.length_append, List.length_cons, List.length_nil] at *; omega))) rfl)) (by kernel_rfl) (hO.sub (.cons_cons _ (.cons_cons _ (List.nil_sublist _)))) ?_
          clear hF; intro a hF
          refine A_take (i := 8) (listed' := #[true, true, true, true, true, true, true, true, true, false, false]) rfl (by kernel_rfl) (by kernel_rfl) (by kernel_rfl) (by kernel_rfl) hF (by kernel_rfl) (by kernel_rfl) (v := .agg #[.string ((nth l i).space), .string ((nth l i).name)]) (fun Wx hO => x_load (p := .pointer (some ⟨b2, 0, none⟩)) rfl (by kernel_rfl) (run_loadA (k := 2) (by kernel_rfl) (by kernel_rfl) (hO.blk List.mem_cons_self) (by kernel_rfl) (by kernel_rfl))) (by kernel_rfl) (hO.sub (.cons_cons _ (.cons_cons _ (List.nil_sublist _)))) ?_
          clear hF; intro a hF
          refine A_take (i := 9) (listed' := #[true, true, true, true, true, true, true, true, true, true, false]) rfl (by kernel_rfl) (by kernel_rfl) (by kernel_rfl) (by kernel_rfl) hF (by kernel_rfl) (by kernel_rfl) (v := .bool (decide ((nth r (((at' : Int) - 1).toNat)) = (nth l i)))) (fun Wx _ => (x_eqKey (a := (nth r (((at' : Int) - 1).toNat))) (b := (nth l i)) rfl (by kernel_rfl) (by kernel_rfl))) (by kernel_rfl) (hO.sub (.cons_cons _ (.cons_cons _ (List.nil_sublist _)))) ?_
          clear hF; intro a hF
          refine A_take (i := 10) (listed' := #[true, true, true, true, true, true, true, true, true, true, true]) rfl (by kernel_rfl) (by kernel_rfl) (by kernel_rfl) (by kernel_rfl) hF (by kernel_rfl) (by kernel_rfl) (v := .bool (decide ((nth r (((at' : Int) - 1).toNat)) = (nth l i)))) (fun Wx _ => by kernel_rfl) (by kernel_rfl) (hO.sub (.cons_cons _ (.cons_cons _ (List.nil_sublist _)))) ?_
          clear hF; intro a hF
          refine A_done (by kernel_rfl) ?_
          refine hK14 _ _ ?_
          by_cases q5 : (nth r (((at' : Int) - 1).toNat)) = (nth l i)
          ·
            replace hF := hF.know (d := 40) (v' := .bool true) (by kernel_rfl) (congrArg Value.bool (decide_eq_true q5))
            refine cond_t hF (by kernel_rfl) (by kernel_rfl) ?_
            refine wp_exit ?_
            refine then_exit ?_
            refine inBlock_hit ?_
            refine hK7 _ _ ?_
            refine wp_region_lit ?_
            refine L_val hF (by kernel_rfl) (by kernel_rfl) (v := .int .i64 ((i : Int) + 1)) (x_int (x := IntKind.i64.wrap ((i : Int) + 1)) (i64In (by omega) (by omega)) (by kernel_rfl)) (by kernel_rfl) ?_
            clear hF; intro a hF
            refine L_val hF (by kernel_rfl) (by kernel_rfl) (v := .int .i64 ((i : Int) + 1)) (by kernel_rfl) (by kernel_rfl) ?_
            clear hF; intro a hF
            refine L_nil ?_
            refine hK_1 ((i + 1, q, qc, r)) _ _ (by first | omega | (dsimp only; omega)) ⟨(by have hps := posL_at hI2.1 hI2.2 (by first | exact .inl (by assumption) | exact .inr (by assumption)); first | exact sortRound0 hI (by omega) hps (by omega) (by assumption) | exact sortRound1 hI (by omega) hps (by first | exact .inl (by omega) | exact .inr (by assumption))), ?_, ?_⟩
            · exact hF.restrict ⟨(by kernel_rfl), (congrArg some (by first | rfl | exact congrArg (Value.int _) (by omega) | simp)), (by kernel_rfl), (by kernel_rfl), (congrArg some (by first | rfl | exact congrArg (Value.int _) (by omega) | simp)), trivial⟩
            · exact hO.sub (.cons _ (.cons_cons _ (List.nil_sublist _)))
          ·
            replace hF := hF.know (d := 40) (v' := .bool false) (by kernel_rfl) (congrArg Value.bool (decide_eq_false q5))
            refine cond_f hF (by kernel_rfl) (by kernel_rfl) ?_
            refine wp_skip ?_
            refine hK13 _ _ ?_
            refine A_start (fun Wx => Own W noX [.blk b2 (.cells #[.string ((nth l i).space), .string ((nth l i).name)] 23 (0, 0)), rowL keyL 2 23 q qc r] Wx) (by kernel_rfl) ?_
            replace hO := hO.drewN 1
            generalize hWd : ({ W4_d with drawn := W4_d.drawn + 1 } : World) = W4_d_d at hO ⊢; clear hWd
            refine A_take (i := 1) (listed' := #[false, true, false, false, false, false, false, false, false, false, false, false, false]) rfl (by kernel_rfl) (by kernel_rfl) (by kernel_rfl) (by kernel_rfl) hF (by kernel_rfl) (by kernel_rfl) (v := .slice q r.length qc) (fun Wx _ => by kernel_rfl) (by kernel_rfl) (hO.sub (.cons_cons _ (.cons_cons _ (List.nil_sublist _)))) ?_
            clear hF; intro a hF
            refine A_take (i := 2) (listed' := #[false, true, true, false, false, false, false, false, false, false, false, false, false]) rfl (by kernel_rfl) (by kernel_rfl) (by kernel_rfl) (by kernel_rfl) hF (by kernel_rfl) (by kernel_rfl) (v := .int .i64 ((at' : Int))) (fun Wx _ => by kernel_rfl) (by kernel_rfl) (hO.sub (.cons_cons _ (.cons_cons _ (List.nil_sublist _)))) ?_
            clear hF; intro a hF
            refine A_take (i := 3) (listed' := #[false, true, true, true, false, false, false, false, false, false, false, false, false]) rfl (by kernel_rfl) (by kernel_rfl) (by kernel_rfl) (by kernel_rfl) hF (by kernel_rfl) (by kernel_rfl) (v := .slice q ((r.take at').length) qc) (fun Wx _ => (x_slSlH (p := q) (len := r.length) (cap := qc) (elem := 23) (k := 2) (hi := (at' : Int)) rfl (by kernel_rfl) (by kernel_rfl) (by kernel_rfl) ⟨.i64, (by kernel_rfl)⟩ (by omega) (by have := (hO.rowCap (List.mem_cons_of_mem _ List.mem_cons_self)); omega) (by (first | omega | (simp only [List.length_set, List.length_take, List.length_drop, List.length_append, List.length_cons, List.length_nil]; done) | (simp only [List.length_set, List.length_take, List.length_drop, List.length_append, List.length_cons, List.length_nil]; omega) | (simp only [List.length_set, List.length_take, List.length_drop, List.length_append, List.length_cons, List.length_nil] at *; omega))))) (by kernel_rfl) (hO.sub (.cons_cons _ (.cons_cons _ (List.nil_sublist _)))) ?_
            clear hF; intro a hF
            refine A_take (i := 5) (listed' := #[false, true, true, true, false, true, false, false, false, false, false, false, false]) rfl (by kernel_rfl) (by kernel_rfl) (by kernel_rfl) (by kernel_rfl) hF (by kernel_rfl) (by kernel_rfl) (v := .agg #[.string ((nth l i).space), .string ((nth l i).name)]) (fun Wx hO => x_load (p := .pointer (some ⟨b2, 0, none⟩)) rfl (by kernel_rfl) (run_loadA (k := 2) (by kernel_rfl) (by kernel_rfl) (hO.blk List.mem_cons_self) (by kernel_rfl) (by kernel_rfl))) (by kernel_rfl) (hO.sub (.cons_cons _ (.cons_cons _ (List.nil_sublist _)))) ?_
            clear hF; intro a hF
            refine A_take (i := 8) (listed' := #[false, true, true, true, false, true, false, false, true, false, false, false, false]) rfl (by kernel_rfl) (by kernel_rfl) (by kernel_rfl) (by kernel_rfl) hF (by kernel_rfl) (by kernel_rfl) (v := .slice q r.length qc) (fun Wx _ => by kernel_rfl) (by kernel_rfl) (hO.sub (.cons_cons _ (.cons_cons _ (List.nil_sublist _)))) ?_
            clear hF; intro a hF
            refine A_take (i := 9) (listed' := #[false, true, true, true, false, true, false, false, true, true, false, false, false]) rfl (by kernel_rfl) (by kernel_rfl) (by kernel_rfl) (by kernel_rfl) hF (by kernel_rfl) (by kernel_rfl) (v := .int .i64 ((at' : Int))) (fun Wx _ => by kernel_rfl) (by kernel_rfl) (hO.sub (.cons_cons _ (.cons_cons _ (List.nil_sublist _)))) ?_
            clear hF; intro a hF
            refine A_take (i := 10) (listed' := #[false, true, true, true, false, true, false, false, true, true, true, false, false]) rfl (by kernel_rfl) (by kernel_rfl) (by kernel_rfl) (by kernel_rfl) hF (by kernel_rfl) (by kernel_rfl) (v := .slice (subP q qc at' 2) ((r.drop at').length) (qc - at')) (fun Wx _ => (x_slSlL (p := q) (len := r.length) (cap := qc) (elem := 23) (k := 2) (lo := (at' : Int)) (hi := (r.length : Int)) rfl (by kernel_rfl) (by kernel_rfl) (by kernel_rfl) ⟨.i64, (by kernel_rfl)⟩ rfl (by omega) (by omega) (by have := (hO.rowCap (List.mem_cons_of_mem _ List.mem_cons_self)); omega) (by simp only [List.length_drop, List.length_take]; omega) rfl)) (by kernel_rfl) (hO.sub (.cons_cons _ (.cons_cons _ (List.nil_sublist _)))) ?_
            clear hF; intro a hF
            refine A_many [0, 6] (by kernel_rfl) rfl ⟨?_, ?_, trivial⟩
            ·
              refine A_br (listed' := #[true, true, true, true, false, true, false, false, true, true, true, false, false]) rfl (by kernel_rfl) ?_
              refine OpK.new hF hO (by kernel_rfl) (by kernel_rfl) (vf := fun b => .slice (some ⟨b, 0, none⟩) 0 0) (ob := .cells #[] 23) (by kernel_rfl) (by kernel_rfl) ?_
              clear hF hO; intro b3 W5 a hO hF
              refine ⟨hO.sub (.cons _ (.cons_cons _ (.cons_cons _ (List.nil_sublist _)))), ?_⟩
              refine A_many [4, 6] (by kernel_rfl) rfl ⟨?_, ?_, trivial⟩
              ·
                refine A_br (listed' := #[true, true, true, true, true, true, false, false, true, true, true, false, false]) rfl (by kernel_rfl) ?_
                replace hO := hO.asRow (k := 2) (cap := 0) keyL ([] : List Key) (.head _) (by decide) (by kernel_rfl) (by decide) (by kernel_rfl)
                obtain ⟨p1, cap1, W6, hap, hO1, -⟩ := run_append_row (P := Tryd.prog) (ty := 36) (t := 36) (z := .agg #[.string (⟨#[]⟩ : ByteArray), .string (⟨#[]⟩ : ByteArray)]) (k := 2) (bytes := 32) (q := q) (ys := r.take at') (cq := qc) hO (.head _) (by kernel_rfl) (by kernel_rfl) (by kernel_rfl) (by decide) (fun _ => rfl) (fun _ => rfl) (SlAt.takeL (k := 2) (hO.row (List.mem_cons_of_mem _ (List.mem_cons_of_mem _ List.mem_cons_self))) (fun _ => rfl) at') (by (try simp only [List.length_append, List.length_take, List.length_drop, List.length_cons, List.length_nil, maxLen]); omega) (by (try simp only [List.length_append, List.length_take, List.length_drop, List.length_cons, List.length_nil, maxLen]); omega)
                refine OpK.valW hF (by kernel_rfl) (by kernel_rfl) (x_app hap rfl (by kernel_rfl) (by kernel_rfl) rfl) (by kernel_rfl) ?_
                clear hap hF; intro a hF; replace hO := hO1; clear hO1
                refine ⟨hO.sub (.cons _ (.cons_cons _ (.cons_cons _ (List.nil_sublist _)))), ?_⟩
                refine A_one (i := 6) (listed' := #[true, true, true, true, true, true, true, false, true, true, true, false, false]) (by kernel_rfl) rfl (by kernel_rfl) ?_
                refine OpK.new hF hO (by kernel_rfl) (by kernel_rfl) (vf := fun b => .slice (some ⟨b, 0, none⟩) 1 1) (ob := .cells #[.string ((nth l i).space), .string ((nth l i).name)] 23) (by kernel_rfl) (by kernel_rfl) ?_
                clear hF hO; intro b4 W7 a hO hF
                refine ⟨hO.sub (.cons _ (.cons _ (.cons_cons _ (.cons_cons _ (List.nil_sublist _))))), ?_⟩
                refine A_one (i := 7) (listed' := #[true, true, true, true, true, true, true, true, true, true, true, false, false]) (by kernel_rfl) rfl (by kernel_rfl) ?_
                obtain ⟨p2, cap2, W8, hap, hO1, -⟩ := run_append_row (P := Tryd.prog) (ty := 36) (t := 36) (z := .agg #[.string (⟨#[]⟩ : ByteArray), .string (⟨#[]⟩ : ByteArray)]) (k := 2) (bytes := 32) (q := some ⟨b4, 0, none⟩) (ys := ([(nth l i)] : List Key)) (cq := 1) hO (.tail (.head _)) (by kernel_rfl) (by kernel_rfl) (by kernel_rfl) (by decide) (fun _ => rfl) (fun _ => rfl) (SlAt.blk hO List.mem_cons_self (by kernel_rfl)) (by (try simp only [List.length_append, List.length_take, List.length_drop, List.length_cons, List.length_nil, maxLen]); omega) (by (try simp only [List.length_append, List.length_take, List.length_drop, List.length_cons, List.length_nil, maxLen]); omega)
                refine OpK.valW hF (by kernel_rfl) (by kernel_rfl) (x_app hap rfl (by kernel_rfl) (by kernel_rfl) rfl) (by kernel_rfl) ?_
                clear hap hF; intro a hF; replace hO := hO1; clear hO1
                refine ⟨hO.sub (.cons _ (.cons _ (.cons_cons _ (.cons_cons _ (List.nil_sublist _))))), ?_⟩
                refine A_one (i := 11) (listed' := #[true, true, true, true, true, true, true, true, true, true, true, true, false]) (by kernel_rfl) rfl (by kernel_rfl) ?_
                obtain ⟨p3, cap3, W9, hap, hO1, -⟩ := run_append_row (P := Tryd.prog) (ty := 36) (t := 36) (z := .agg #[.string (⟨#[]⟩ : ByteArray), .string (⟨#[]⟩ : ByteArray)]) (k := 2) (bytes := 32) (q := subP q qc at' 2) (ys := r.drop at') (cq := qc - at') hO (.head _) (by kernel_rfl) (by kernel_rfl) (by kernel_rfl) (by decide) (fun _ => rfl) (fun _ => rfl) (SlAt.dropL (k := 2) (hO.row (List.mem_cons_of_mem _ (List.mem_cons_of_mem _ (List.mem_cons_of_mem _ List.mem_cons_self)))) (fun _ => rfl) qc at' (by have := (hO.rowCap (List.mem_cons_of_mem _ (List.mem_cons_of_mem _ (List.mem_cons_of_mem _ List.mem_cons_self)))); (try simp only [List.length_take]); omega)) (by (try simp only [List.length_append, List.length_take, List.length_drop, List.length_cons, List.length_nil, maxLen]); omega) (by (try simp only [List.length_append, List.length_take, List.length_drop, List.length_cons, List.length_nil, maxLen]); omega)
                refine OpK.valW hF (by kernel_rfl) (by kernel_rfl) (x_app hap rfl (by kernel_rfl) (by kernel_rfl) rfl) (by kernel_rfl) ?_
                clear hap hF; intro a hF; replace hO := hO1; clear hO1
                refine ⟨hO.sub (.cons _ (.cons _ (.cons_cons _ (.cons_cons _ (List.nil_sublist _))))), ?_⟩
                refine A_take (i := 12) (listed' := #[true, true, true, true, true, true, true, true, true, true, true, true, true]) rfl (by kernel_rfl) (by kernel_rfl) (by kernel_rfl) (by kernel_rfl) hF (by kernel_rfl) (by kernel_rfl) (v := .slice p3 ((((r.take at') ++ ([(nth l i)] : List Key)) ++ (r.drop at')).length) cap3) (fun Wx _ => by kernel_rfl) (by kernel_rfl) (hO.sub (.cons _ (.cons _ (.cons_cons _ (.cons_cons _ (List.nil_sublist _)))))) ?_
                clear hF; intro a hF
                refine A_done (by kernel_rfl) ?_
                refine block_normal ?_
                refine hK7 _ _ ?_
                refine wp_region_lit ?_
                refine L_val hF (by kernel_rfl) (by kernel_rfl) (v := .int .i64 ((i : Int) + 1)) (x_int (x := IntKind.i64.wrap ((i : Int) + 1)) (i64In (by omega) (by omega)) (by kernel_rfl)) (by kernel_rfl) ?_
                clear hF; intro a hF
                refine L_val hF (by kernel_rfl) (by kernel_rfl) (v := .int .i64 ((i : Int) + 1)) (by kernel_rfl) (by kernel_rfl) ?_
                clear hF; intro a hF
                refine L_nil ?_
                refine hK_1 ((i + 1, p3, cap3, ((r.take at') ++ ([(nth l i)] : List Key)) ++ (r.drop at'))) _ _ (by first | omega | (dsimp only; omega)) ⟨(by have hps := posL_at hI2.1 hI2.2 (by first | exact .inl (by assumption) | exact .inr (by assumption)); first | exact sortRound0 hI (by omega) hps (by omega) (by assumption) | exact sortRound1 hI (by omega) hps (by first | exact .inl (by omega) | exact .inr (by assumption))), ?_, ?_⟩
                · exact hF.restrict ⟨(by kernel_rfl), (congrArg some (by first | rfl | exact congrArg (Value.int _) (by omega) | simp)), (by kernel_rfl), (by kernel_rfl), (congrArg some (by first | rfl | exact congrArg (Value.int _) (by omega) | simp)), trivial⟩
                · exact hO.sub (.cons_cons _ (List.nil_sublist _))
              ·
                refine A_br (listed' := #[true, true, true, true, false, true, true, false, true, true, true, false, false]) rfl (by kernel_rfl) ?_
                refine OpK.new hF hO (by kernel_rfl) (by kernel_rfl) (vf := fun b => .slice (some ⟨b, 0, none⟩) 1 1) (ob := .cells #[.string ((nth l i).space), .string ((nth l i).name)] 23) (by kernel_rfl) (by kernel_rfl) ?_
                clear hF hO; intro b5 W10 a hO hF
                refine ⟨hO.sub (.cons _ (.cons _ (.cons_cons _ (.cons_cons _ (List.nil_sublist _))))), ?_⟩
                refine A_one (i := 4) (listed' := #[true, true, true, true, true, true, true, false, true, true, true, false, false]) (by kernel_rfl) rfl (by kernel_rfl) ?_
                replace hO := hO.asRow (k := 2) (cap := 0) keyL ([] : List Key) (.tail (.head _)) (by decide) (by kernel_rfl) (by decide) (by kernel_rfl)
                obtain ⟨p4, cap4, W11, hap, hO1, -⟩ := run_append_row (P := Tryd.prog) (ty := 36) (t := 36) (z := .agg #[.string (⟨#[]⟩ : ByteArray), .string (⟨#[]⟩ : ByteArray)]) (k := 2) (bytes := 32) (q := q) (ys := r.take at') (cq := qc) hO (.tail (.head _)) (by kernel_rfl) (by kernel_rfl) (by kernel_rfl) (by decide) (fun _ => rfl) (fun _ => rfl) (SlAt.takeL (k := 2) (hO.row (List.mem_cons_of_mem _ (List.mem_cons_of_mem _ (List.mem_cons_of_mem _ List.mem_cons_self)))) (fun _ => rfl) at') (by (try simp only [List.length_append, List.length_take, List.length_drop, List.length_cons, List.length_nil, maxLen]); omega) (by (try simp only [List.length_append, List.length_take, List.length_drop, List.length_cons, List.length_nil, maxLen]); omega)
                refine OpK.valW hF (by kernel_rfl) (by kernel_rfl) (x_app hap rfl (by kernel_rfl) (by kernel_rfl) rfl) (by kernel_rfl) ?_
                clear hap hF; intro a hF; replace hO := hO1; clear hO1
                refine ⟨hO.sub (.cons _ (.cons _ (.cons_cons _ (.cons_cons _ (List.nil_sublist _))))), ?_⟩
                refine A_one (i := 7) (listed' := #[true, true, true, true, true, true, true, true, true, true, true, false, false]) (by kernel_rfl) rfl (by kernel_rfl) ?_
                obtain ⟨p5, cap5, W12, hap, hO1, -⟩ := run_append_row (P := Tryd.prog) (ty := 36) (t := 36) (z := .agg #[.string (⟨#[]⟩ : ByteArray), .string (⟨#[]⟩ : ByteArray)]) (k := 2) (bytes := 32) (q := some ⟨b5, 0, none⟩) (ys := ([(nth l i)] : List Key)) (cq := 1) hO (.head _) (by kernel_rfl) (by kernel_rfl) (by kernel_rfl) (by decide) (fun _ => rfl) (fun _ => rfl) (SlAt.blk hO (List.mem_cons_of_mem _ List.mem_cons_self) (by kernel_rfl)) (by (try simp only [List.length_append, List.length_take, List.length_drop, List.length_cons, List.length_nil, maxLen]); omega) (by (try simp only [List.length_append, List.length_take, List.length_drop, List.length_cons, List.length_nil, maxLen]); omega)
                refine OpK.valW hF (by kernel_rfl) (by kernel_rfl) (x_app hap rfl (by kernel_rfl) (by kernel_rfl) rfl) (by kernel_rfl) ?_
                clear hap hF; intro a hF; replace hO := hO1; clear hO1
                refine ⟨hO.sub (.cons _ (.cons _ (.cons_cons _ (.cons_cons _ (List.nil_sublist _))))), ?_⟩
                refine A_one (i := 11) (listed' := #[true, true, true, true, true, true, true, true, true, true, true, true, false]) (by kernel_rfl) rfl (by kernel_rfl) ?_
                obtain ⟨p6, cap6, W13, hap, hO1, -⟩ := run_append_row (P := Tryd.prog) (ty := 36) (t := 36) (z := .agg #[.string (⟨#[]⟩ : ByteArray), .string (⟨#[]⟩ : ByteArray)]) (k := 2) (bytes := 32) (q := subP q qc at' 2) (ys := r.drop at') (cq := qc - at') hO (.head _) (by kernel_rfl) (by kernel_rfl) (by kernel_rfl) (by decide) (fun _ => rfl) (fun _ => rfl) (SlAt.dropL (k := 2) (hO.row (List.mem_cons_of_mem _ (List.mem_cons_of_mem _ (List.mem_cons_of_mem _ List.mem_cons_self)))) (fun _ => rfl) qc at' (by have := (hO.rowCap (List.mem_cons_of_mem _ (List.mem_cons_of_mem _ (List.mem_cons_of_mem _ List.mem_cons_self)))); (try simp only [List.length_take]); omega)) (by (try simp only [List.length_append, List.length_take, List.length_drop, List.length_cons, List.length_nil, maxLen]); omega) (by (try simp only [List.length_append, List.length_take, List.length_drop, List.length_cons, List.length_nil, maxLen]); omega)
                refine OpK.valW hF (by kernel_rfl) (by kernel_rfl) (x_app hap rfl (by kernel_rfl) (by kernel_rfl) rfl) (by kernel_rfl) ?_
                clear hap hF; intro a hF; replace hO := hO1; clear hO1
                refine ⟨hO.sub (.cons _ (.cons _ (.cons_cons _ (.cons_cons _ (List.nil_sublist _))))), ?_⟩
                refine A_take (i := 12) (listed' := #[true, true, true, true, true, true, true, true, true, true, true, true, true]) rfl (by kernel_rfl) (by kernel_rfl) (by kernel_rfl) (by kernel_rfl) hF (by kernel_rfl) (by kernel_rfl) (v := .slice p6 ((((r.take at') ++ ([(nth l i)] : List Key)) ++ (r.drop at')).length) cap6) (fun Wx _ => by kernel_rfl) (by kernel_rfl) (hO.sub (.cons _ (.cons _ (.cons_cons _ (.cons_cons _ (List.nil_sublist _)))))) ?_
                clear hF; intro a hF
                refine A_done (by kernel_rfl) ?_
                refine block_normal ?_
                refine hK7 _ _ ?_
                refine wp_region_lit ?_
                refine L_val hF (by kernel_rfl) (by kernel_rfl) (v := .int .i64 ((i : Int) + 1)) (x_int (x := IntKind.i64.wrap ((i : Int) + 1)) (i64In (by omega) (by omega)) (by kernel_rfl)) (by kernel_rfl) ?_
                clear hF; intro a hF
                refine L_val hF (by kernel_rfl) (by kernel_rfl) (v := .int .i64 ((i : Int) + 1)) (by kernel_rfl) (by kernel_rfl) ?_
                clear hF; intro a hF
                refine L_nil ?_
                refine hK_1 ((i + 1, p6, cap6, ((r.take at') ++ ([(nth l i)] : List Key)) ++ (r.drop at'))) _ _ (by first | omega | (dsimp only; omega)) ⟨(by have hps := posL_at hI2.1 hI2.2 (by first | exact .inl (by assumption) | exact .inr (by assumption)); first | exact sortRound0 hI (by omega) hps (by omega) (by assumption) | exact sortRound1 hI (by omega) hps (by first | exact .inl (by omega) | exact .inr (by assumption))), ?_, ?_⟩
                · exact hF.restrict ⟨(by kernel_rfl), (congrArg some (by first | rfl | exact congrArg (Value.int _) (by omega) | simp)), (by kernel_rfl), (by kernel_rfl), (congrArg some (by first | rfl | exact congrArg (Value.int _) (by omega) | simp)), trivial⟩
                · exact hO.sub (.cons_cons _ (List.nil_sublist _))
            ·
              refine A_br (listed' := #[false, true, true, true, false, true, true, false, true, true, true, false, false]) rfl (by kernel_rfl) ?_
              refine OpK.new hF hO (by kernel_rfl) (by kernel_rfl) (vf := fun b => .slice (some ⟨b, 0, none⟩) 1 1) (ob := .cells #[.string ((nth l i).space), .string ((nth l i).name)] 23) (by kernel_rfl) (by kernel_rfl) ?_
              clear hF hO; intro b6 W14 a hO hF
              refine ⟨hO.sub (.cons _ (.cons_cons _ (.cons_cons _ (List.nil_sublist _)))), ?_⟩
              refine A_one (i := 0) (listed' := #[true, true, true, true, false, true, true, false, true, true, true, false, false]) (by kernel_rfl) rfl (by kernel_rfl) ?_
              refine OpK.new hF hO (by kernel_rfl) (by kernel_rfl) (vf := fun b => .slice (some ⟨b, 0, none⟩) 0 0) (ob := .cells #[] 23) (by kernel_rfl) (by kernel_rfl) ?_
              clear hF hO; intro b7 W15 a hO hF
              refine ⟨hO.sub (.cons _ (.cons _ (.cons_cons _ (.cons_cons _ (List.nil_sublist _))))), ?_⟩
              refine A_one (i := 4) (listed' := #[true, true, true, true, true, true, true, false, true, true, true, false, false]) (by kernel_rfl) rfl (by kernel_rfl) ?_
              replace hO := hO.asRow (k := 2) (cap := 0) keyL ([] : List Key) (.head _) (by decide) (by kernel_rfl) (by decide) (by kernel_rfl)
              obtain ⟨p7, cap7, W16, hap, hO1, -⟩ := run_append_row (P := Tryd.prog) (ty := 36) (t := 36) (z := .agg #[.string (⟨#[]⟩ : ByteArray), .string (⟨#[]⟩ : ByteArray)]) (k := 2) (bytes := 32) (q := q) (ys := r.take at') (cq := qc) hO (.head _) (by kernel_rfl) (by kernel_rfl) (by kernel_rfl) (by decide) (fun _ => rfl) (fun _ => rfl) (SlAt.takeL (k := 2) (hO.row (List.mem_cons_of_mem _ (List.mem_cons_of_mem _ (List.mem_cons_of_mem _ List.mem_cons_self)))) (fun _ => rfl) at') (by (try simp only [List.length_append, List.length_take, List.length_drop, List.length_cons, List.length_nil, maxLen]); omega) (by (try simp only [List.length_append, List.length_take, List.length_drop, List.length_cons, List.length_nil, maxLen]); omega)
              refine OpK.valW hF (by kernel_rfl) (by kernel_rfl) (x_app hap rfl (by kernel_rfl) (by kernel_rfl) rfl) (by kernel_rfl) ?_
              clear hap hF; intro a hF; replace hO := hO1; clear hO1
              refine ⟨hO.sub (.cons _ (.cons _ (.cons_cons _ (.cons_cons _ (List.nil_sublist _))))), ?_⟩
              refine A_one (i := 7) (listed' := #[true, true, true, true, true, true, true, true, true, true, true, false, false]) (by kernel_rfl) rfl (by kernel_rfl) ?_
              obtain ⟨p8, cap8, W17, hap, hO1, -⟩ := run_append_row (P := Tryd.prog) (ty := 36) (t := 36) (z := .agg #[.string (⟨#[]⟩ : ByteArray), .string (⟨#[]⟩ : ByteArray)]) (k := 2) (bytes := 32) (q := some ⟨b6, 0, none⟩) (ys := ([(nth l i)] : List Key)) (cq := 1) hO (.head _) (by kernel_rfl) (by kernel_rfl) (by kernel_rfl) (by decide) (fun _ => rfl) (fun _ => rfl) (SlAt.blk hO (List.mem_cons_of_mem _ List.mem_cons_self) (by kernel_rfl)) (by (try simp only [List.length_append, List.length_take, List.length_drop, List.length_cons, List.length_nil, maxLen]); omega) (by (try simp only [List.length_append, List.length_take, List.length_drop, List.length_cons, List.length_nil, maxLen]); omega)
              refine OpK.valW hF (by kernel_rfl) (by kernel_rfl) (x_app hap rfl (by kernel_rfl) (by kernel_rfl) rfl) (by kernel_rfl) ?_
              clear hap hF; intro a hF; replace hO := hO1; clear hO1
              refine ⟨hO.sub (.cons _ (.cons _ (.cons_cons _ (.cons_cons _ (List.nil_sublist _))))), ?_⟩
              refine A_one (i := 11) (listed' := #[true, true, true, true, true, true, true, true, true, true, true, true, false]) (by kernel_rfl) rfl (by kernel_rfl) ?_
              obtain ⟨p9, cap9, W18, hap, hO1, -⟩ := run_append_row (P := Tryd.prog) (ty := 36) (t := 36) (z := .agg #[.string (⟨#[]⟩ : ByteArray), .string (⟨#[]⟩ : ByteArray)]) (k := 2) (bytes := 32) (q := subP q qc at' 2) (ys := r.drop at') (cq := qc - at') hO (.head _) (by kernel_rfl) (by kernel_rfl) (by kernel_rfl) (by decide) (fun _ => rfl) (fun _ => rfl) (SlAt.dropL (k := 2) (hO.row (List.mem_cons_of_mem _ (List.mem_cons_of_mem _ (List.mem_cons_of_mem _ List.mem_cons_self)))) (fun _ => rfl) qc at' (by have := (hO.rowCap (List.mem_cons_of_mem _ (List.mem_cons_of_mem _ (List.mem_cons_of_mem _ List.mem_cons_self)))); (try simp only [List.length_take]); omega)) (by (try simp only [List.length_append, List.length_take, List.length_drop, List.length_cons, List.length_nil, maxLen]); omega) (by (try simp only [List.length_append, List.length_take, List.length_drop, List.length_cons, List.length_nil, maxLen]); omega)
              refine OpK.valW hF (by kernel_rfl) (by kernel_rfl) (x_app hap rfl (by kernel_rfl) (by kernel_rfl) rfl) (by kernel_rfl) ?_
              clear hap hF; intro a hF; replace hO := hO1; clear hO1
              refine ⟨hO.sub (.cons _ (.cons _ (.cons_cons _ (.cons_cons _ (List.nil_sublist _))))), ?_⟩
              refine A_take (i := 12) (listed' := #[true, true, true, true, true, true, true, true, true, true, true, true, true]) rfl (by kernel_rfl) (by kernel_rfl) (by kernel_rfl) (by kernel_rfl) hF (by kernel_rfl) (by kernel_rfl) (v := .slice p9 ((((r.take at') ++ ([(nth l i)] : List Key)) ++ (r.drop at')).length) cap9) (fun Wx _ => by kernel_rfl) (by kernel_rfl) (hO.sub (.cons _ (.cons _ (.cons_cons _ (.cons_cons _ (List.nil_sublist _)))))) ?_
              clear hF; intro a hF
              refine A_done (by kernel_rfl) ?_
              refine block_normal ?_
              refine hK7 _ _ ?_
              refine wp_region_lit ?_
              refine L_val hF (by kernel_rfl) (by kernel_rfl) (v := .int .i64 ((i : Int) + 1)) (x_int (x := IntKind.i64.wrap ((i : Int) + 1)) (i64In (by omega) (by omega)) (by kernel_rfl)) (by kernel_rfl) ?_
              clear hF; intro a hF
              refine L_val hF (by kernel_rfl) (by kernel_rfl) (v := .int .i64 ((i : Int) + 1)) (by kernel_rfl) (by kernel_rfl) ?_
              clear hF; intro a hF
              refine L_nil ?_
              refine hK_1 ((i + 1, p9, cap9, ((r.take at') ++ ([(nth l i)] : List Key)) ++ (r.drop at'))) _ _ (by first | omega | (dsimp only; omega)) ⟨(by have hps := posL_at hI2.1 hI2.2 (by first | exact .inl (by assumption) | exact .inr (by assumption)); first | exact sortRound0 hI (by omega) hps (by omega) (by assumption) | exact sortRound1 hI (by omega) hps (by first | exact .inl (by omega) | exact .inr (by assumption))), ?_, ?_⟩
              · exact hF.restrict ⟨(by kernel_rfl), (congrArg some (by first | rfl | exact congrArg (Value.int _) (by omega) | simp)), (by kernel_rfl), (by kernel_rfl), (congrArg some (by first | rfl | exact congrArg (Value.int _) (by omega) | simp)), trivial⟩
              · exact hO.sub (.cons_cons _ (List.nil_sublist _))
        ·
          replace hF := hF.know (d := 32) (v' := .bool false) (by kernel_rfl) (congrArg Value.bool (decide_eq_false q4))
          refine A_takeOff (i := 3) (listed' := #[true, true, true, true, false, false, false, false, false, false, false]) rfl (by kernel_rfl) (by kernel_rfl) (by kernel_rfl) (by kernel_rfl) hF (by kernel_rfl) (by kernel_rfl) (hO.sub (.cons_cons _ (.cons_cons _ (List.nil_sublist _)))) ?_
          clear hF; intro a hF
          refine A_takeOff (i := 4) (listed' := #[true, true, true, true, true, false, false, false, false, false, false]) rfl (by kernel_rfl) (by kernel_rfl) (by kernel_rfl) (by kernel_rfl) hF (by kernel_rfl) (by kernel_rfl) (hO.sub (.cons_cons _ (.cons_cons _ (List.nil_sublist _)))) ?_
          clear hF; intro a hF
          refine A_takeOff (i := 5) (listed' := #[true, true, true, true, true, true, false, false, false, false, false]) rfl (by kernel_rfl) (by kernel_rfl) (by kernel_rfl) (by kernel_rfl) hF (by kernel_rfl) (by kernel_rfl) (hO.sub (.cons_cons _ (.cons_cons _ (List.nil_sublist _)))) ?_
          clear hF; intro a hF
          refine A_takeOff (i := 6) (listed' := #[true, true, true, true, true, true, true, false, false, false, false]) rfl (by kernel_rfl) (by kernel_rfl) (by kernel_rfl) (by kernel_rfl) hF (by kernel_rfl) (by kernel_rfl) (hO.sub (.cons_cons _ (.cons_cons _ (List.nil_sublist _)))) ?_
          clear hF; intro a hF
          refine A_takeOff (i := 7) (listed' := #[true, true, true, true, true, true, true, true, false, false, false]) rfl (by kernel_rfl) (by kernel_rfl) (by kernel_rfl) (by kernel_rfl) hF (by kernel_rfl) (by kernel_rfl) (hO.sub (.cons_cons _ (.cons_cons _ (List.nil_sublist _)))) ?_
          clear hF; intro a hF
          refine A_takeOff (i := 8) (listed' := #[true, true, true, true, true, true, true, true, true, false, false]) rfl (by kernel_rfl) (by kernel_rfl) (by kernel_rfl) (by kernel_rfl) hF (by kernel_rfl) (by kernel_rfl) (hO.sub (.cons_cons _ (.cons_cons _ (List.nil_sublist _)))) ?_
          clear hF; intro a hF
          refine A_takeOff (i := 9) (listed' := #[true, true, true, true, true, true, true, true, true, true, false]) rfl (by kernel_rfl) (by kernel_rfl) (by kernel_rfl) (by kernel_rfl) hF (by kernel_rfl) (by kernel_rfl) (hO.sub (.cons_cons _ (.cons_cons _ (List.nil_sublist _)))) ?_
          clear hF; intro a hF
          refine A_take (i := 10) (listed' := #[true, true, true, true, true, true, true, true, true, true, true]) rfl (by kernel_rfl) (by kernel_rfl) (by kernel_rfl) (by kernel_rfl) hF (by kernel_rfl) (by kernel_rfl) (v := .bool false) (fun Wx _ => by kernel_rfl) (by kernel_rfl) (hO.sub (.cons_cons _ (.cons_cons _ (List.nil_sublist _)))) ?_
          clear hF; intro a hF
          refine A_done (by kernel_rfl) ?_
          refine hK14 _ _ ?_
          refine cond_f hF (by kernel_rfl) (by kernel_rfl) ?_
          refine wp_skip ?_
          refine hK13 _ _ ?_
          refine A_start (fun Wx => Own W noX [.blk b2 (.cells #[.string ((nth l i).space), .string ((nth l i).name)] 23 (0, 0)), rowL keyL 2 23 q qc r] Wx) (by kernel_rfl) ?_
          replace hO := hO.drewN 1
          generalize hWd : ({ W4_d with drawn := W4_d.drawn + 1 } : World) = W4_d_d at hO ⊢; clear hWd
          refine A_take (i := 1) (listed' := #[false, true, false, false, false, false, false, false, false, false, false, false, false]) rfl (by kernel_rfl) (by kernel_rfl) (by kernel_rfl) (by kernel_rfl) hF (by kernel_rfl) (by kernel_rfl) (v := .slice q r.length qc) (fun Wx _ => by kernel_rfl) (by kernel_rfl) (hO.sub (.cons_cons _ (.cons_cons _ (List.nil_sublist _)))) ?_
          clear hF; intro a hF
          refine A_take (i := 2) (listed' := #[false, true, true, false, false, false, false, false, false, false, false, false, false]) rfl (by kernel_rfl) (by kernel_rfl) (by kernel_rfl) (by kernel_rfl) hF (by kernel_rfl) (by kernel_rfl) (v := .int .i64 ((at' : Int))) (fun Wx _ => by kernel_rfl) (by kernel_rfl) (hO.sub (.cons_cons _ (.cons_cons _ (List.nil_sublist _)))) ?_
          clear hF; intro a hF
          refine A_take (i := 3) (listed' := #[false, true, true, true, false, false, false, false, false, false, false, false, false]) rfl (by kernel_rfl) (by kernel_rfl) (by kernel_rfl) (by kernel_rfl) hF (by kernel_rfl) (by kernel_rfl) (v := .slice q ((r.take at').length) qc) (fun Wx _ => (x_slSlH (p := q) (len := r.length) (cap := qc) (elem := 23) (k := 2) (hi := (at' : Int)) rfl (by kernel_rfl) (by kernel_rfl) (by kernel_rfl) ⟨.i64, (by kernel_rfl)⟩ (by omega) (by have := (hO.rowCap (List.mem_cons_of_mem _ List.mem_cons_self)); omega) (by (first | omega | (simp only [List.length_set, List.length_take, List.length_drop, List.length_append, List.length_cons, List.length_nil]; done) | (simp only [List.length_set, List.length_take, List.length_drop, List.length_append, List.length_cons, List.length_nil]; omega) | (simp only [List.length_set, List.length_take, List.length_drop, List.length_append, List.length_cons, List.length_nil] at *; omega))))) (by kernel_rfl) (hO.sub (.cons_cons _ (.cons_cons _ (List.nil_sublist _)))) ?_
          clear hF; intro a hF
          refine A_take (i := 5) (listed' := #[false, true, true, true, false, true, false, false, false, false, false, false, false]) rfl (by kernel_rfl) (by kernel_rfl) (by kernel_rfl) (by kernel_rfl) hF (by kernel_rfl) (by kernel_rfl) (v := .agg #[.string ((nth l i).space), .string ((nth l i).name)]) (fun Wx hO => x_load (p := .pointer (some ⟨b2, 0, none⟩)) rfl (by kernel_rfl) (run_loadA (k := 2) (by kernel_rfl) (by kernel_rfl) (hO.blk List.mem_cons_self) (by kernel_rfl) (by kernel_rfl))) (by kernel_rfl) (hO.sub (.cons_cons _ (.cons_cons _ (List.nil_sublist _)))) ?_
          clear hF; intro a hF
          refine A_take (i := 8) (listed' := #[false, true, true, true, false, true, false, false, true, false, false, false, false]) rfl (by kernel_rfl) (by kernel_rfl) (by kernel_rfl) (by kernel_rfl) hF (by kernel_rfl) (by kernel_rfl) (v := .slice q r.length qc) (fun Wx _ => by kernel_rfl) (by kernel_rfl) (hO.sub (.cons_cons _ (.cons_cons _ (List.nil_sublist _)))) ?_
          clear hF; intro a hF
          refine A_take (i := 9) (listed' := #[false, true, true, true, false, true, false, false, true, true, false, false, false]) rfl (by kernel_rfl) (by kernel_rfl) (by kernel_rfl) (by kernel_rfl) hF (by kernel_rfl) (by kernel_rfl) (v := .int .i64 ((at' : Int))) (fun Wx _ => by kernel_rfl) (by kernel_rfl) (hO.sub (.cons_cons _ (.cons_cons _ (List.nil_sublist _)))) ?_
          clear hF; intro a hF
          refine A_take (i := 10) (listed' := #[false, true, true, true, false, true, false, false, true, true, true, false, false]) rfl (by kernel_rfl) (by kernel_rfl) (by kernel_rfl) (by kernel_rfl) hF (by kernel_rfl) (by kernel_rfl) (v := .slice (subP q qc at' 2) ((r.drop at').length) (qc - at')) (fun Wx _ => (x_slSlL (p := q) (len := r.length) (cap := qc) (elem := 23) (k := 2) (lo := (at' : Int)) (hi := (r.length : Int)) rfl (by kernel_rfl) (by kernel_rfl) (by kernel_rfl) ⟨.i64, (by kernel_rfl)⟩ rfl (by omega) (by omega) (by have := (hO.rowCap (List.mem_cons_of_mem _ List.mem_cons_self)); omega) (by simp only [List.length_drop, List.length_take]; omega) rfl)) (by kernel_rfl) (hO.sub (.cons_cons _ (.cons_cons _ (List.nil_sublist _)))) ?_
          clear hF; intro a hF
          refine A_many [0, 6] (by kernel_rfl) rfl ⟨?_, ?_, trivial⟩
          ·
            refine A_br (listed' := #[true, true, true, true, false, true, false, false, true, true, true, false, false]) rfl (by kernel_rfl) ?_
            refine OpK.new hF hO (by kernel_rfl) (by kernel_rfl) (vf := fun b => .slice (some ⟨b, 0, none⟩) 0 0) (ob := .cells #[] 23) (by kernel_rfl) (by kernel_rfl) ?_
            clear hF hO; intro b8 W19 a hO hF
            refine ⟨hO.sub (.cons _ (.cons_cons _ (.cons_cons _ (List.nil_sublist _)))), ?_⟩
            refine A_many [4, 6] (by kernel_rfl) rfl ⟨?_, ?_, trivial⟩
            ·
              refine A_br (listed' := #[true, true, true, true, true, true, false, false, true, true, true, false, false]) rfl (by kernel_rfl) ?_
              replace hO := hO.asRow (k := 2) (cap := 0) keyL ([] : List Key) (.head _) (by decide) (by kernel_rfl) (by decide) (by kernel_rfl)
              obtain ⟨p10, cap10, W20, hap, hO1, -⟩ := run_append_row (P := Tryd.prog) (ty := 36) (t := 36) (z := .agg #[.string (⟨#[]⟩ : ByteArray), .string (⟨#[]⟩ : ByteArray)]) (k := 2) (bytes := 32) (q := q) (ys := r.take at') (cq := qc) hO (.head _) (by kernel_rfl) (by kernel_rfl) (by kernel_rfl) (by decide) (fun _ => rfl) (fun _ => rfl) (SlAt.takeL (k := 2) (hO.row (List.mem_cons_of_mem _ (List.mem_cons_of_mem _ List.mem_cons_self))) (fun _ => rfl) at') (by (try simp only [List.length_append, List.length_take, List.length_drop, List.length_cons, List.length_nil, maxLen]); omega) (by (try simp only [List.length_append, List.length_take, List.length_drop, List.length_cons, List.length_nil, maxLen]); omega)
              refine OpK.valW hF (by kernel_rfl) (by kernel_rfl) (x_app hap rfl (by kernel_rfl) (by kernel_rfl) rfl) (by kernel_rfl) ?_
              clear hap hF; intro a hF; replace hO := hO1; clear hO1
              refine ⟨hO.sub (.cons _ (.cons_cons _ (.cons_cons _ (List.nil_sublist _)))), ?_⟩
              refine A_one (i := 6) (listed' := #[true, true, true, true, true, true, true, false, true, true, true, false, false]) (by kernel_rfl) rfl (by kernel_rfl) ?_
              refine OpK.new hF hO (by kernel_rfl) (by kernel_rfl) (vf := fun b => .slice (some ⟨b, 0, none⟩) 1 1) (ob := .cells #[.string ((nth l i).space), .string ((nth l i).name)] 23) (by kernel_rfl) (by kernel_rfl) ?_
              clear hF hO; intro b9 W21 a hO hF
              refine ⟨hO.sub (.cons _ (.cons _ (.cons_cons _ (.cons_cons _ (List.nil_sublist _))))), ?_⟩
              refine A_one (i := 7) (listed' := #[true, true, true, true, true, true, true, true, true, true, true, false, false]) (by kernel_rfl) rfl (by kernel_rfl) ?_
              obtain ⟨p11, cap11, W22, hap, hO1, -⟩ := run_append_row (P := Tryd.prog) (ty := 36) (t := 36) (z := .agg #[.string (⟨#[]⟩ : ByteArray), .string (⟨#[]⟩ : ByteArray)]) (k := 2) (bytes := 32) (q := some ⟨b9, 0, none⟩) (ys := ([(nth l i)] : List Key)) (cq := 1) hO (.tail (.head _)) (by kernel_rfl) (by kernel_rfl) (by kernel_rfl) (by decide) (fun _ => rfl) (fun _ => rfl) (SlAt.blk hO List.mem_cons_self (by kernel_rfl)) (by (try simp only [List.length_append, List.length_take, List.length_drop, List.length_cons, List.length_nil, maxLen]); omega) (by (try simp only [List.length_append, List.length_take, List.length_drop, List.length_cons, List.length_nil, maxLen]); omega)
              refine OpK.valW hF (by kernel_rfl) (by kernel_rfl) (x_app hap rfl (by kernel_rfl) (by kernel_rfl) rfl) (by kernel_rfl) ?_
              clear hap hF; intro a hF; replace hO := hO1; clear hO1
              refine ⟨hO.sub (.cons _ (.cons _ (.cons_cons _ (.cons_cons _ (List.nil_sublist _))))), ?_⟩
              refine A_one (i := 11) (listed' := #[true, true, true, true, true, true, true, true, true, true, true, true, false]) (by kernel_rfl) rfl (by kernel_rfl) ?_
              obtain ⟨p12, cap12, W23, hap, hO1, -⟩ := run_append_row (P := Tryd.prog) (ty := 36) (t := 36) (z := .agg #[.string (⟨#[]⟩ : ByteArray), .string (⟨#[]⟩ : ByteArray)]) (k := 2) (bytes := 32) (q := subP q qc at' 2) (ys := r.drop at') (cq := qc - at') hO (.head _) (by kernel_rfl) (by kernel_rfl) (by kernel_rfl) (by decide) (fun _ => rfl) (fun _ => rfl) (SlAt.dropL (k := 2) (hO.row (List.mem_cons_of_mem _ (List.mem_cons_of_mem _ (List.mem_cons_of_mem _ List.mem_cons_self)))) (fun _ => rfl) qc at' (by have := (hO.rowCap (List.mem_cons_of_mem _ (List.mem_cons_of_mem _ (List.mem_cons_of_mem _ List.mem_cons_self)))); (try simp only [List.length_take]); omega)) (by (try simp only [List.length_append, List.length_take, List.length_drop, List.length_cons, List.length_nil, maxLen]); omega) (by (try simp only [List.length_append, List.length_take, List.length_drop, List.length_cons, List.length_nil, maxLen]); omega)
              refine OpK.valW hF (by kernel_rfl) (by kernel_rfl) (x_app hap rfl (by kernel_rfl) (by kernel_rfl) rfl) (by kernel_rfl) ?_
              clear hap hF; intro a hF; replace hO := hO1; clear hO1
              refine ⟨hO.sub (.cons _ (.cons _ (.cons_cons _ (.cons_cons _ (List.nil_sublist _))))), ?_⟩
              refine A_take (i := 12) (listed' := #[true, true, true, true, true, true, true, true, true, true, true, true, true]) rfl (by kernel_rfl) (by kernel_rfl) (by kernel_rfl) (by kernel_rfl) hF (by kernel_rfl) (by kernel_rfl) (v := .slice p12 ((((r.take at') ++ ([(nth l i)] : List Key)) ++ (r.drop at')).length) cap12) (fun Wx _ => by kernel_rfl) (by kernel_rfl) (hO.sub (.cons _ (.cons _ (.cons_cons _ (.cons_cons _ (List.nil_sublist _)))))) ?_
              clear hF; intro a hF
              refine A_done (by kernel_rfl) ?_
              refine block_normal ?_
              refine hK7 _ _ ?_
              refine wp_region_lit ?_
              refine L_val hF (by kernel_rfl) (by kernel_rfl) (v := .int .i64 ((i : Int) + 1)) (x_int (x := IntKind.i64.wrap ((i : Int) + 1)) (i64In (by omega) (by omega)) (by kernel_rfl)) (by kernel_rfl) ?_
              clear hF; intro a hF
              refine L_val hF (by kernel_rfl) (by kernel_rfl) (v := .int .i64 ((i : Int) + 1)) (by kernel_rfl) (by kernel_rfl) ?_
              clear hF; intro a hF
              refine L_nil ?_
              refine hK_1 ((i + 1, p12, cap12, ((r.take at') ++ ([(nth l i)] : List Key)) ++ (r.drop at'))) _ _ (by first | omega | (dsimp only; omega)) ⟨(by have hps := posL_at hI2.1 hI2.2 (by first | exact .inl (by assumption) | exact .inr (by assumption)); first | exact sortRound0 hI (by omega) hps (by omega) (by assumption) | exact sortRound1 hI (by omega) hps (by first | exact .inl (by omega) | exact .inr (by assumption))), ?_, ?_⟩
              · exact hF.restrict ⟨(by kernel_rfl), (congrArg some (by first | rfl | exact congrArg (Value.int _) (by omega) | simp)), (by kernel_rfl), (by kernel_rfl), (congrArg some (by first | rfl | exact congrArg (Value.int _) (by omega) | simp)), trivial⟩
              · exact hO.sub (.cons_cons _ (List.nil_sublist _))
            ·
              refine A_br (listed' := #[true, true, true, true, false, true, true, false, true, true, true, false, false]) rfl (by kernel_rfl) ?_
              refine OpK.new hF hO (by kernel_rfl) (by kernel_rfl) (vf := fun b => .slice (some ⟨b, 0, none⟩) 1 1) (ob := .cells #[.string ((nth l i).space), .string ((nth l i).name)] 23) (by kernel_rfl) (by kernel_rfl) ?_
              clear hF hO; intro b10 W24 a hO hF
              refine ⟨hO.sub (.cons _ (.cons _ (.cons_cons _ (.cons_cons _ (List.nil_sublist _))))), ?_⟩
              refine A_one (i := 4) (listed' := #[true, true, true, true, true, true, true, false, true, true, true, false, false]) (by kernel_rfl) rfl (by kernel_rfl) ?_
              replace hO := hO.asRow (k := 2) (cap := 0) keyL ([] : List Key) (.tail (.head _)) (by decide) (by kernel_rfl) (by decide) (by kernel_rfl)
              obtain ⟨p13, cap13, W25, hap, hO1, -⟩ := run_append_row (P := Tryd.prog) (ty := 36) (t := 36) (z := .agg #[.string (⟨#[]⟩ : ByteArray), .string (⟨#[]⟩ : ByteArray)]) (k := 2) (bytes := 32) (q := q) (ys := r.take at') (cq := qc) hO (.tail (.head _)) (by kernel_rfl) (by kernel_rfl) (by kernel_rfl) (by decide) (fun _ => rfl) (fun _ => rfl) (SlAt.takeL (k := 2) (hO.row (List.mem_cons_of_mem _ (List.mem_cons_of_mem _ (List.mem_cons_of_mem _ List.mem_cons_self)))) (fun _ => rfl) at') (by (try simp only [List.length_append, List.length_take, List.length_drop, List.length_cons, List.length_nil, maxLen]); omega) (by (try simp only [List.length_append, List.length_take, List.length_drop, List.length_cons, List.length_nil, maxLen]); omega)
              refine OpK.valW hF (by kernel_rfl) (by kernel_rfl) (x_app hap rfl (by kernel_rfl) (by kernel_rfl) rfl) (by kernel_rfl) ?_
              clear hap hF; intro a hF; replace hO := hO1; clear hO1
              refine ⟨hO.sub (.cons _ (.cons _ (.cons_cons _ (.cons_cons _ (List.nil_sublist _))))), ?_⟩
              refine A_one (i := 7) (listed' := #[true, true, true, true, true, true, true, true, true, true, true, false, false]) (by kernel_rfl) rfl (by kernel_rfl) ?_
              obtain ⟨p14, cap14, W26, hap, hO1, -⟩ := run_append_row (P := Tryd.prog) (ty := 36) (t := 36) (z := .agg #[.string (⟨#[]⟩ : ByteArray), .string (⟨#[]⟩ : ByteArray)]) (k := 2) (bytes := 32) (q := some ⟨b10, 0, none⟩) (ys := ([(nth l i)] : List Key)) (cq := 1) hO (.head _) (by kernel_rfl) (by kernel_rfl) (by kernel_rfl) (by decide) (fun _ => rfl) (fun _ => rfl) (SlAt.blk hO (List.mem_cons_of_mem _ List.mem_cons_self) (by kernel_rfl)) (by (try simp only [List.length_append, List.length_take, List.length_drop, List.length_cons, List.length_nil, maxLen]); omega) (by (try simp only [List.length_append, List.length_take, List.length_drop, List.length_cons, List.length_nil, maxLen]); omega)
              refine OpK.valW hF (by kernel_rfl) (by kernel_rfl) (x_app hap rfl (by kernel_rfl) (by kernel_rfl) rfl) (by kernel_rfl) ?_
              clear hap hF; intro a hF; replace hO := hO1; clear hO1
              refine ⟨hO.sub (.cons _ (.cons _ (.cons_cons _ (.cons_cons _ (List.nil_sublist _))))), ?_⟩
              refine A_one (i := 11) (listed' := #[true, true, true, true, true, true, true, true, true, true, true, true, false]) (by kernel_rfl) rfl (by kernel_rfl) ?_
              obtain ⟨p15, cap15, W27, hap, hO1, -⟩ := run_append_row (P := Tryd.prog) (ty := 36) (t := 36) (z := .agg #[.string (⟨#[]⟩ : ByteArray), .string (⟨#[]⟩ : ByteArray)]) (k := 2) (bytes := 32) (q := subP q qc at' 2) (ys := r.drop at') (cq := qc - at') hO (.head _) (by kernel_rfl) (by kernel_rfl) (by kernel_rfl) (by decide) (fun _ => rfl) (fun _ => rfl) (SlAt.dropL (k := 2) (hO.row (List.mem_cons_of_mem _ (List.mem_cons_of_mem _ (List.mem_cons_of_mem _ List.mem_cons_self)))) (fun _ => rfl) qc at' (by have := (hO.rowCap (List.mem_cons_of_mem _ (List.mem_cons_of_mem _ (List.mem_cons_of_mem _ List.mem_cons_self)))); (try simp only [List.length_take]); omega)) (by (try simp only [List.length_append, List.length_take, List.length_drop, List.length_cons, List.length_nil, maxLen]); omega) (by (try simp only [List.length_append, List.length_take, List.length_drop, List.length_cons, List.length_nil, maxLen]); omega)
              refine OpK.valW hF (by kernel_rfl) (by kernel_rfl) (x_app hap rfl (by kernel_rfl) (by kernel_rfl) rfl) (by kernel_rfl) ?_
              clear hap hF; intro a hF; replace hO := hO1; clear hO1
              refine ⟨hO.sub (.cons _ (.cons _ (.cons_cons _ (.cons_cons _ (List.nil_sublist _))))), ?_⟩
              refine A_take (i := 12) (listed' := #[true, true, true, true, true, true, true, true, true, true, true, true, true]) rfl (by kernel_rfl) (by kernel_rfl) (by kernel_rfl) (by kernel_rfl) hF (by kernel_rfl) (by kernel_rfl) (v := .slice p15 ((((r.take at') ++ ([(nth l i)] : List Key)) ++ (r.drop at')).length) cap15) (fun Wx _ => by kernel_rfl) (by kernel_rfl) (hO.sub (.cons _ (.cons _ (.cons_cons _ (.cons_cons _ (List.nil_sublist _)))))) ?_
              clear hF; intro a hF
              refine A_done (by kernel_rfl) ?_
              refine block_normal ?_
              refine hK7 _ _ ?_
              refine wp_region_lit ?_
              refine L_val hF (by kernel_rfl) (by kernel_rfl) (v := .int .i64 ((i : Int) + 1)) (x_int (x := IntKind.i64.wrap ((i : Int) + 1)) (i64In (by omega) (by omega)) (by kernel_rfl)) (by kernel_rfl) ?_
              clear hF; intro a hF
              refine L_val hF (by kernel_rfl) (by kernel_rfl) (v := .int .i64 ((i : Int) + 1)) (by kernel_rfl) (by kernel_rfl) ?_
              clear hF; intro a hF
              refine L_nil ?_
              refine hK_1 ((i + 1, p15, cap15, ((r.take at') ++ ([(nth l i)] : List Key)) ++ (r.drop at'))) _ _ (by first | omega | (dsimp only; omega)) ⟨(by have hps := posL_at hI2.1 hI2.2 (by first | exact .inl (by assumption) | exact .inr (by assumption)); first | exact sortRound0 hI (by omega) hps (by omega) (by assumption) | exact sortRound1 hI (by omega) hps (by first | exact .inl (by omega) | exact .inr (by assumption))), ?_, ?_⟩
              · exact hF.restrict ⟨(by kernel_rfl), (congrArg some (by first | rfl | exact congrArg (Value.int _) (by omega) | simp)), (by kernel_rfl), (by kernel_rfl), (congrArg some (by first | rfl | exact congrArg (Value.int _) (by omega) | simp)), trivial⟩
              · exact hO.sub (.cons_cons _ (List.nil_sublist _))
          ·
            refine A_br (listed' := #[false, true, true, true, false, true, true, false, true, true, true, false, false]) rfl (by kernel_rfl) ?_
            refine OpK.new hF hO (by kernel_rfl) (by kernel_rfl) (vf := fun b => .slice (some ⟨b, 0, none⟩) 1 1) (ob := .cells #[.string ((nth l i).space), .string ((nth l i).name)] 23) (by kernel_rfl) (by kernel_rfl) ?_
            clear hF hO; intro b11 W28 a hO hF
            refine ⟨hO.sub (.cons _ (.cons_cons _ (.cons_cons _ (List.nil_sublist _)))), ?_⟩
            refine A_one (i := 0) (listed' := #[true, true, true, true, false, true, true, false, true, true, true, false, false]) (by kernel_rfl) rfl (by kernel_rfl) ?_
            refine OpK.new hF hO (by kernel_rfl) (by kernel_rfl) (vf := fun b => .slice (some ⟨b, 0, none⟩) 0 0) (ob := .cells #[] 23) (by kernel_rfl) (by kernel_rfl) ?_
            clear hF hO; intro b12 W29 a hO hF
            refine ⟨hO.sub (.cons _ (.cons _ (.cons_cons _ (.cons_cons _ (List.nil_sublist _))))), ?_⟩
            refine A_one (i := 4) (listed' := #[true, true, true, true, true, true, true, false, true, true, true, false, false]) (by kernel_rfl) rfl (by kernel_rfl) ?_
            replace hO := hO.asRow (k := 2) (cap := 0) keyL ([] : List Key) (.head _) (by decide) (by kernel_rfl) (by decide) (by kernel_rfl)
            obtain ⟨p16, cap16, W30, hap, hO1, -⟩ := run_append_row (P := Tryd.prog) (ty := 36) (t := 36) (z := .agg #[.string (⟨#[]⟩ : ByteArray), .string (⟨#[]⟩ : ByteArray)]) (k := 2) (bytes := 32) (q := q) (ys := r.take at') (cq := qc) hO (.head _) (by kernel_rfl) (by kernel_rfl) (by kernel_rfl) (by decide) (fun _ => rfl) (fun _ => rfl) (SlAt.takeL (k := 2) (hO.row (List.mem_cons_of_mem _ (List.mem_cons_of_mem _ (List.mem_cons_of_mem _ List.mem_cons_self)))) (fun _ => rfl) at') (by (try simp only [List.length_append, List.length_take, List.length_drop, List.length_cons, List.length_nil, maxLen]); omega) (by (try simp only [List.length_append, List.length_take, List.length_drop, List.length_cons, List.length_nil, maxLen]); omega)
            refine OpK.valW hF (by kernel_rfl) (by kernel_rfl) (x_app hap rfl (by kernel_rfl) (by kernel_rfl) rfl) (by kernel_rfl) ?_
            clear hap hF; intro a hF; replace hO := hO1; clear hO1
            refine ⟨hO.sub (.cons _ (.cons _ (.cons_cons _ (.cons_cons _ (List.nil_sublist _))))), ?_⟩
            refine A_one (i := 7) (listed' := #[true, true, true, true, true, true, true, true, true, true, true, false, false]) (by kernel_rfl) rfl (by kernel_rfl) ?_
            obtain ⟨p17, cap17, W31, hap, hO1, -⟩ := run_append_row (P := Tryd.prog) (ty := 36) (t := 36) (z := .agg #[.string (⟨#[]⟩ : ByteArray), .string (⟨#[]⟩ : ByteArray)]) (k := 2) (bytes := 32) (q := some ⟨b11, 0, none⟩) (ys := ([(nth l i)] : List Key)) (cq := 1) hO (.head _) (by kernel_rfl) (by kernel_rfl) (by kernel_rfl) (by decide) (fun _ => rfl) (fun _ => rfl) (SlAt.blk hO (List.mem_cons_of_mem _ List.mem_cons_self) (by kernel_rfl)) (by (try simp only [List.length_append, List.length_take, List.length_drop, List.length_cons, List.length_nil, maxLen]); omega) (by (try simp only [List.length_append, List.length_take, List.length_drop, List.length_cons, List.length_nil, maxLen]); omega)
            refine OpK.valW hF (by kernel_rfl) (by kernel_rfl) (x_app hap rfl (by kernel_rfl) (by kernel_rfl) rfl) (by kernel_rfl) ?_
            clear hap hF; intro a hF; replace hO := hO1; clear hO1
            refine ⟨hO.sub (.cons _ (.cons _ (.cons_cons _ (.cons_cons _ (List.nil_sublist _))))), ?_⟩
            refine A_one (i := 11) (listed' := #[true, true, true, true, true, true, true, true, true, true, true, true, false]) (by kernel_rfl) rfl (by kernel_rfl) ?_
            obtain ⟨p18, cap18, W32, hap, hO1, -⟩ := run_append_row (P := Tryd.prog) (ty := 36) (t := 36) (z := .agg #[.string (⟨#[]⟩ : ByteArray), .string (⟨#[]⟩ : ByteArray)]) (k := 2) (bytes := 32) (q := subP q qc at' 2) (ys := r.drop at') (cq := qc - at') hO (.head _) (by kernel_rfl) (by kernel_rfl) (by kernel_rfl) (by decide) (fun _ => rfl) (fun _ => rfl) (SlAt.dropL (k := 2) (hO.row (List.mem_cons_of_mem _ (List.mem_cons_of_mem _ (List.mem_cons_of_mem _ List.mem_cons_self)))) (fun _ => rfl) qc at' (by have := (hO.rowCap (List.mem_cons_of_mem _ (List.mem_cons_of_mem _ (List.mem_cons_of_mem _ List.mem_cons_self)))); (try simp only [List.length_take]); omega)) (by (try simp only [List.length_append, List.length_take, List.length_drop, List.length_cons, List.length_nil, maxLen]); omega) (by (try simp only [List.length_append, List.length_take, List.length_drop, List.length_cons, List.length_nil, maxLen]); omega)
            refine OpK.valW hF (by kernel_rfl) (by kernel_rfl) (x_app hap rfl (by kernel_rfl) (by kernel_rfl) rfl) (by kernel_rfl) ?_
            clear hap hF; intro a hF; replace hO := hO1; clear hO1
            refine ⟨hO.sub (.cons _ (.cons _ (.cons_cons _ (.cons_cons _ (List.nil_sublist _))))), ?_⟩
            refine A_take (i := 12) (listed' := #[true, true, true, true, true, true, true, true, true, true, true, true, true]) rfl (by kernel_rfl) (by kernel_rfl) (by kernel_rfl) (by kernel_rfl) hF (by kernel_rfl) (by kernel_rfl) (v := .slice p18 ((((r.take at') ++ ([(nth l i)] : List Key)) ++ (r.drop at')).length) cap18) (fun Wx _ => by kernel_rfl) (by kernel_rfl) (hO.sub (.cons _ (.cons _ (.cons_cons _ (.cons_cons _ (List.nil_sublist _)))))) ?_
            clear hF; intro a hF
            refine A_done (by kernel_rfl) ?_
            refine block_normal ?_
            refine hK7 _ _ ?_
            refine wp_region_lit ?_
            refine L_val hF (by kernel_rfl) (by kernel_rfl) (v := .int .i64 ((i : Int) + 1)) (x_int (x := IntKind.i64.wrap ((i : Int) + 1)) (i64In (by omega) (by omega)) (by kernel_rfl)) (by kernel_rfl) ?_
            clear hF; intro a hF
            refine L_val hF (by kernel_rfl) (by kernel_rfl) (v := .int .i64 ((i : Int) + 1)) (by kernel_rfl) (by kernel_rfl) ?_
            clear hF; intro a hF
            refine L_nil ?_
            refine hK_1 ((i + 1, p18, cap18, ((r.take at') ++ ([(nth l i)] : List Key)) ++ (r.drop at'))) _ _ (by first | omega | (dsimp only; omega)) ⟨(by have hps := posL_at hI2.1 hI2.2 (by first | exact .inl (by assumption) | exact .inr (by assumption)); first | exact sortRound0 hI (by omega) hps (by omega) (by assumption) | exact sortRound1 hI (by omega) hps (by first | exact .inl (by omega) | exact .inr (by assumption))), ?_, ?_⟩
            · exact hF.restrict ⟨(by kernel_rfl), (congrArg some (by first | rfl | exact congrArg (Value.int _) (by omega) | simp)), (by kernel_rfl), (by kernel_rfl), (congrArg some (by first | rfl | exact congrArg (Value.int _) (by omega) | simp)), trivial⟩
            · exact hO.sub (.cons_cons _ (List.nil_sublist _))
    ·
      replace hF := hF.know (d := 18) (v' := .bool false) (by kernel_rfl) (congrArg Value.bool (decide_eq_false q2))
      refine A_takeOff (i := 3) (listed' := #[true, true, true, true, false, false, false, false, false, false, false, false]) rfl (by kernel_rfl) (by kernel_rfl) (by kernel_rfl) (by kernel_rfl) hF (by kernel_rfl) (by kernel_rfl) (hO.sub (.cons_cons _ (.cons_cons _ (List.nil_sublist _)))) ?_
      clear hF; intro a hF
      refine A_takeOff (i := 4) (listed' := #[true, true, true, true, true, false, false, false, false, false, false, false]) rfl (by kernel_rfl) (by kernel_rfl) (by kernel_rfl) (by kernel_rfl) hF (by kernel_rfl) (by kernel_rfl) (hO.sub (.cons_cons _ (.cons_cons _ (List.nil_sublist _)))) ?_
      clear hF; intro a hF
      refine A_takeOff (i := 5) (listed' := #[true, true, true, true, true, true, false, false, false, false, false, false]) rfl (by kernel_rfl) (by kernel_rfl) (by kernel_rfl) (by kernel_rfl) hF (by kernel_rfl) (by kernel_rfl) (hO.sub (.cons_cons _ (.cons_cons _ (List.nil_sublist _)))) ?_
      clear hF; intro a hF
      refine A_takeOff (i := 6) (listed' := #[true, true, true, true, true, true, true, false, false, false, false, false]) rfl (by kernel_rfl) (by kernel_rfl) (by kernel_rfl) (by kernel_rfl) hF (by kernel_rfl) (by kernel_rfl) (hO.sub (.cons_cons _ (.cons_cons _ (List.nil_sublist _)))) ?_
      clear hF; intro a hF
      refine A_takeOff (i := 7) (listed' := #[true, true, true, true, true, true, true, true, false, false, false, false]) rfl (by kernel_rfl) (by kernel_rfl) (by kernel_rfl) (by kernel_rfl) hF (by kernel_rfl) (by kernel_rfl) (hO.sub (.cons_cons _ (.cons_cons _ (List.nil_sublist _)))) ?_
      clear hF; intro a hF
      refine A_takeOff (i := 8) (listed' := #[true, true, true, true, true, true, true, true, true, false, false, false]) rfl (by kernel_rfl) (by kernel_rfl) (by kernel_rfl) (by kernel_rfl) hF (by kernel_rfl) (by kernel_rfl) (hO.sub (.cons_cons _ (.cons_cons _ (List.nil_sublist _)))) ?_
      clear hF; intro a hF
      refine A_takeOff (i := 9) (listed' := #[true, true, true, true, true, true, true, true, true, true, false, false]) rfl (by kernel_rfl) (by kernel_rfl) (by kernel_rfl) (by kernel_rfl) hF (by kernel_rfl) (by kernel_rfl) (hO.sub (.cons_cons _ (.cons_cons _ (List.nil_sublist _)))) ?_
      clear hF; intro a hF
      refine A_takeOff (i := 10) (listed' := #[true, true, true, true, true, true, true, true, true, true, true, false]) rfl (by kernel_rfl) (by kernel_rfl) (by kernel_rfl) (by kernel_rfl) hF (by kernel_rfl) (by kernel_rfl) (hO.sub (.cons_cons _ (.cons_cons _ (List.nil_sublist _)))) ?_
      clear hF; intro a hF
      refine A_take (i := 11) (listed' := #[true, true, true, true, true, true, true, true, true, true, true, true]) rfl (by kernel_rfl) (by kernel_rfl) (by kernel_rfl) (by kernel_rfl) hF (by kernel_rfl) (by kernel_rfl) (v := .bool false) (fun Wx _ => by kernel_rfl) (by kernel_rfl) (hO.sub (.cons_cons _ (.cons_cons _ (List.nil_sublist _)))) ?_
      clear hF; intro a hF
      refine A_done (by kernel_rfl) ?_
      refine hK12 _ _ ?_
      refine cond_f hF (by kernel_rfl) (by kernel_rfl) ?_
      refine wp_exit ?_
      refine then_exit ?_
      refine then_exit ?_
      refine inBlock_hit ?_
      refine hK10 _ _ ?_
      refine wp_seq_k fun K15 hK15 => ?_
      refine wp_seq_k fun K16 hK16 => ?_
      refine A_start (fun Wx => Own W noX [.blk b2 (.cells #[.string ((nth l i).space), .string ((nth l i).name)] 23 (0, 0)), rowL keyL 2 23 q qc r] Wx) (by kernel_rfl) ?_
      replace hO := hO.drewN 1
      generalize hWd : ({ Wl2_d with drawn := Wl2_d.drawn + 1 } : World) = Wl2_d_d at hO ⊢; clear hWd
      refine A_take (i := 0) (listed' := #[true, false, false, false, false, false, false, false, false, false, false]) rfl (by kernel_rfl) (by kernel_rfl) (by kernel_rfl) (by kernel_rfl) hF (by kernel_rfl) (by kernel_rfl) (v := .int .i64 ((at' : Int))) (fun Wx _ => by kernel_rfl) (by kernel_rfl) (hO.sub (.cons_cons _ (.cons_cons _ (List.nil_sublist _)))) ?_
      clear hF; intro a hF
      refine A_take (i := 1) (listed' := #[true, true, false, false, false, false, false, false, false, false, false]) rfl (by kernel_rfl) (by kernel_rfl) (by kernel_rfl) (by kernel_rfl) hF (by kernel_rfl) (by kernel_rfl) (v := .bool (decide ((at' : Int) > 0))) (fun Wx _ => by kernel_rfl) (by kernel_rfl) (hO.sub (.cons_cons _ (.cons_cons _ (List.nil_sublist _)))) ?_
      clear hF; intro a hF
      refine A_take (i := 2) (listed' := #[true, true, true, false, false, false, false, false, false, false, false]) rfl (by kernel_rfl) (by kernel_rfl) (by kernel_rfl) (by kernel_rfl) hF (by kernel_rfl) (by kernel_rfl) (v := .bool (decide ((at' : Int) > 0))) (fun Wx _ => by kernel_rfl) (by kernel_rfl) (hO.sub (.cons_cons _ (.cons_cons _ (List.nil_sublist _)))) ?_
      clear hF; intro a hF
      by_cases q6 : (at' : Int) > 0
      ·
        replace hF := hF.know (d := 32) (v' := .bool true) (by kernel_rfl) (congrArg Value.bool (decide_eq_true q6))
        refine A_take (i := 3) (listed' := #[true, true, true, true, false, false, false, false, false, false, false]) rfl (by kernel_rfl) (by kernel_rfl) (by kernel_rfl) (by kernel_rfl) hF (by kernel_rfl) (by kernel_rfl) (v := .slice q r.length qc) (fun Wx _ => by kernel_rfl) (by kernel_rfl) (hO.sub (.cons_cons _ (.cons_cons _ (List.nil_sublist _)))) ?_
        clear hF; intro a hF
        refine A_take (i := 4) (listed' := #[true, true, true, true, true, false, false, false, false, false, false]) rfl (by kernel_rfl) (by kernel_rfl) (by kernel_rfl) (by kernel_rfl) hF (by kernel_rfl) (by kernel_rfl) (v := .int .i64 ((at' : Int))) (fun Wx _ => by kernel_rfl) (by kernel_rfl) (hO.sub (.cons_cons _ (.cons_cons _ (List.nil_sublist _)))) ?_
        clear hF; intro a hF
        refine A_take (i := 5) (listed' := #[true, true, true, true, true, true, false, false, false, false, false]) rfl (by kernel_rfl) (by kernel_rfl) (by kernel_rfl) (by kernel_rfl) hF (by kernel_rfl) (by kernel_rfl) (v := .int .i64 ((at' : Int) - 1)) (fun Wx _ => (x_int (x := IntKind.i64.wrap ((at' : Int) - 1)) (i64In (by omega) (by omega)) (by kernel_rfl))) (by kernel_rfl) (hO.sub (.cons_cons _ (.cons_cons _ (List.nil_sublist _)))) ?_
        clear hF; intro a hF
        refine A_take (i := 6) (listed' := #[true, true, true, true, true, true, true, false, false, false, false]) rfl (by kernel_rfl) (by kernel_rfl) (by kernel_rfl) (by kernel_rfl) hF (by kernel_rfl) (by kernel_rfl) (v := .pointer (some ⟨(ab q), ao q + (((at' : Int) - 1).toNat) * 2, none⟩)) (fun Wx _ => (x_idxAddrS (p := q) (len := r.length) (cap := qc) (elem := 23) (kd := .i64) (k := 2) (i := (at' : Int) - 1) rfl (by kernel_rfl) (by kernel_rfl) (by kernel_rfl) (by kernel_rfl) (by omega) (by omega) (SlAt.ne (k := 2) (hO.row (List.mem_cons_of_mem _ List.mem_cons_self)) (fun _ => rfl) (by decide) (by (first | omega | (simp only [List.length_set, List.length_take, List.length_drop, List.length_append, List.length_cons, List.length_nil]; done) | (simp only [List.length_set, List.length_take, List.length_drop, List.length_append, List.length_cons, List.length_nil]; omega) | (simp only [List.length_set, List.length_take, List.length_drop, List.length_append, List.length_cons, List.length_nil] at *; omega)) : ((at' : Int) - 1).toNat < r.length)))) (by kernel_rfl) (hO.sub (.cons_cons _ (.cons_cons _ (List.nil_sublist _)))) ?_
        clear hF; intro a hF
        refine A_take (i := 7) (listed' := #[true, true, true, true, true, true, true, true, false, false, false]) rfl (by kernel_rfl) (by kernel_rfl) (by kernel_rfl) (by kernel_rfl) hF (by kernel_rfl) (by kernel_rfl) (v := keyV (nth r (((at' : Int) - 1).toNat))) (fun Wx hO => x_load (p := .pointer (some ⟨(ab q), ao q + (((at' : Int) - 1).toNat) * 2, none⟩)) rfl (by kernel_rfl) (run_loadEl (k := 2) (by kernel_rfl) (by kernel_rfl) (hO.row (List.mem_cons_of_mem _ List.mem_cons_self)) (fun _ => rfl) (by (first | omega | (simp only [List.length_set, List.length_take, List.length_drop, List.length_append, List.length_cons, List.length_nil]; done) | (simp only [List.length_set, List.length_take, List.length_drop, List.length_append, List.length_cons, List.length_nil]; omega) | (simp only [List.length_set, List.length_take, List.length_drop, List.length_append, List.length_cons, List.length_nil] at *; omega))) rfl)) (by kernel_rfl) (hO.sub (.cons_cons _ (.cons_cons _ (List.nil_sublist _)))) ?_
        clear hF; intro a hF
        refine A_take (i := 8) (listed' := #[true, true, true, true, true, true, true, true, true, false, false]) rfl (by kernel_rfl) (by kernel_rfl) (by kernel_rfl) (by kernel_rfl) hF (by kernel_rfl) (by kernel_rfl) (v := .agg #[.string ((nth l i).space), .string ((nth l i).name)]) (fun Wx hO => x_load (p := .pointer (some ⟨b2, 0, none⟩)) rfl (by kernel_rfl) (run_loadA (k := 2) (by kernel_rfl) (by kernel_rfl) (hO.blk List.mem_cons_self) (by kernel_rfl) (by kernel_rfl))) (by kernel_rfl) (hO.sub (.cons_cons _ (.cons_cons _ (List.nil_sublist _)))) ?_
        clear hF; intro a hF
        refine A_take (i := 9) (listed' := #[true, true, true, true, true, true, true, true, true, true, false]) rfl (by kernel_rfl) (by kernel_rfl) (by kernel_rfl) (by kernel_rfl) hF (by kernel_rfl) (by kernel_rfl) (v := .bool (decide ((nth r (((at' : Int) - 1).toNat)) = (nth l i)))) (fun Wx _ => (x_eqKey (a := (nth r (((at' : Int) - 1).toNat))) (b := (nth l i)) rfl (by kernel_rfl) (by kernel_rfl))) (by kernel_rfl) (hO.sub (.cons_cons _ (.cons_cons _ (List.nil_sublist _)))) ?_
        clear hF; intro a hF
        refine A_take (i := 10) (listed' := #[true, true, true, true, true, true, true, true, true, true, true]) rfl (by kernel_rfl) (by kernel_rfl) (by kernel_rfl) (by kernel_rfl) hF (by kernel_rfl) (by kernel_rfl) (v := .bool (decide ((nth r (((at' : Int) - 1).toNat)) = (nth l i)))) (fun Wx _ => by kernel_rfl) (by kernel_rfl) (hO.sub (.cons_cons _ (.cons_cons _ (List.nil_sublist _)))) ?_
        clear hF; intro a hF
        refine A_done (by kernel_rfl) ?_
        refine hK16 _ _ ?_
        by_cases q7 : (nth r (((at' : Int) - 1).toNat)) = (nth l i)
        ·
          replace hF := hF.know (d := 40) (v' := .bool true) (by kernel_rfl) (congrArg Value.bool (decide_eq_true q7))
          refine cond_t hF (by kernel_rfl) (by kernel_rfl) ?_
          refine wp_exit ?_
          refine then_exit ?_
          refine inBlock_hit ?_
          refine hK7 _ _ ?_
          refine wp_region_lit ?_
          refine L_val hF (by kernel_rfl) (by kernel_rfl) (v := .int .i64 ((i : Int) + 1)) (x_int (x := IntKind.i64.wrap ((i : Int) + 1)) (i64In (by omega) (by omega)) (by kernel_rfl)) (by kernel_rfl) ?_
          clear hF; intro a hF
          refine L_val hF (by kernel_rfl) (by kernel_rfl) (v := .int .i64 ((i : Int) + 1)) (by kernel_rfl) (by kernel_rfl) ?_
          clear hF; intro a hF
          refine L_nil ?_
          refine hK_1 ((i + 1, q, qc, r)) _ _ (by first | omega | (dsimp only; omega)) ⟨(by have hps := posL_at hI2.1 hI2.2 (by first | exact .inl (by assumption) | exact .inr (by assumption)); first | exact sortRound0 hI (by omega) hps (by omega) (by assumption) | exact sortRound1 hI (by omega) hps (by first | exact .inl (by omega) | exact .inr (by assumption))), ?_, ?_⟩
          · exact hF.restrict ⟨(by kernel_rfl), (congrArg some (by first | rfl | exact congrArg (Value.int _) (by omega) | simp)), (by kernel_rfl), (by kernel_rfl), (congrArg some (by first | rfl | exact congrArg (Value.int _) (by omega) | simp)), trivial⟩
          · exact hO.sub (.cons _ (.cons_cons _ (List.nil_sublist _)))
        ·
          replace hF := hF.know (d := 40) (v' := .bool false) (by kernel_rfl) (congrArg Value.bool (decide_eq_false q7))
          refine cond_f hF (by kernel_rfl) (by kernel_rfl) ?_
          refine wp_skip ?_
          refine hK15 _ _ ?_
          refine A_start (fun Wx => Own W noX [.blk b2 (.cells #[.string ((nth l i).space), .string ((nth l i).name)] 23 (0, 0)), rowL keyL 2 23 q qc r] Wx) (by kernel_rfl) ?_
          replace hO := hO.drewN 1
          generalize hWd : ({ Wl2_d_d with drawn := Wl2_d_d.drawn + 1 } : World) = Wl2_d_d_d at hO ⊢; clear hWd
          refine A_take (i := 1) (listed' := #[false, true, false, false, false, false, false, false, false, false, false, false, false]) rfl (by kernel_rfl) (by kernel_rfl) (by kernel_rfl) (by kernel_rfl) hF (by kernel_rfl) (by kernel_rfl) (v := .slice q r.length qc) (fun Wx _ => by kernel_rfl) (by kernel_rfl) (hO.sub (.cons_cons _ (.cons_cons _ (List.nil_sublist _)))) ?_
          clear hF; intro a hF
          refine A_take (i := 2) (listed' := #[false, true, true, false, false, false, false, false, false, false, false, false, false]) rfl (by kernel_rfl) (by kernel_rfl) (by kernel_rfl) (by kernel_rfl) hF (by kernel_rfl) (by kernel_rfl) (v := .int .i64 ((at' : Int))) (fun Wx _ => by kernel_rfl) (by kernel_rfl) (hO.sub (.cons_cons _ (.cons_cons _ (List.nil_sublist _)))) ?_
          clear hF; intro a hF
          refine A_take (i := 3) (listed' := #[false, true, true, true, false, false, false, false, false, false, false, false, false]) rfl (by kernel_rfl) (by kernel_rfl) (by kernel_rfl) (by kernel_rfl) hF (by kernel_rfl) (by kernel_rfl) (v := .slice q ((r.take at').length) qc) (fun Wx _ => (x_slSlH (p := q) (len := r.length) (cap := qc) (elem := 23) (k := 2) (hi := (at' : Int)) rfl (by kernel_rfl) (by kernel_rfl) (by kernel_rfl) ⟨.i64, (by kernel_rfl)⟩ (by omega) (by have := (hO.rowCap (List.mem_cons_of_mem _ List.mem_cons_self)); omega) (by (first | omega | (simp only [List.length_set, List.length_take, List.length_drop, List.length_append, List.length_cons, List.length_nil]; done) | (simp only [List.length_set, List.length_take, List.length_drop, List.length_append, List.length_cons, List.length_nil]; omega) | (simp only [List.length_set, List.length_take, List.length_drop, List.length_append, List.length_cons, List.length_nil] at *; omega))))) (by kernel_rfl) (hO.sub (.cons_cons _ (.cons_cons _ (List.nil_sublist _)))) ?_
          clear hF; intro a hF
          refine A_take (i := 5) (listed' := #[false, true, true, true, false, true, false, false, false, false, false, false, false]) rfl (by kernel_rfl) (by kernel_rfl) (by kernel_rfl) (by kernel_rfl) hF (by kernel_rfl) (by kernel_rfl) (v := .agg #[.string ((nth l i).space), .string ((nth l i).name)]) (fun Wx hO => x_load (p := .pointer (some ⟨b2, 0, none⟩)) rfl (by kernel_rfl) (run_loadA (k := 2) (by kernel_rfl) (by kernel_rfl) (hO.blk List.mem_cons_self) (by kernel_rfl) (by kernel_rfl))) (by kernel_rfl) (hO.sub (.cons_cons _ (.cons_cons _ (List.nil_sublist _)))) ?_
          clear hF; intro a hF
          refine A_take (i := 8) (listed' := #[false, true, true, true, false, true, false, false, true, false, false, false, false]) rfl (by kernel_rfl) (by kernel_rfl) (by kernel_rfl) (by kernel_rfl) hF (by kernel_rfl) (by kernel_rfl) (v := .slice q r.length qc) (fun Wx _ => by kernel_rfl) (by kernel_rfl) (hO.sub (.cons_cons _ (.cons_cons _ (List.nil_sublist _)))) ?_
          clear hF; intro a hF
          refine A_take (i := 9) (listed' := #[false, true, true, true, false, true, false, false, true, true, false, false, false]) rfl (by kernel_rfl) (by kernel_rfl) (by kernel_rfl) (by kernel_rfl) hF (by kernel_rfl) (by kernel_rfl) (v := .int .i64 ((at' : Int))) (fun Wx _ => by kernel_rfl) (by kernel_rfl) (hO.sub (.cons_cons _ (.cons_cons _ (List.nil_sublist _)))) ?_
          clear hF; intro a hF
          refine A_take (i := 10) (listed' := #[false, true, true, true, false, true, false, false, true, true, true, false, false]) rfl (by kernel_rfl) (by kernel_rfl) (by kernel_rfl) (by kernel_rfl) hF (by kernel_rfl) (by kernel_rfl) (v := .slice (subP q qc at' 2) ((r.drop at').length) (qc - at')) (fun Wx _ => (x_slSlL (p := q) (len := r.length) (cap := qc) (elem := 23) (k := 2) (lo := (at' : Int)) (hi := (r.length : Int)) rfl (by kernel_rfl) (by kernel_rfl) (by kernel_rfl) ⟨.i64, (by kernel_rfl)⟩ rfl (by omega) (by omega) (by have := (hO.rowCap (List.mem_cons_of_mem _ List.mem_cons_self)); omega) (by simp only [List.length_drop, List.length_take]; omega) rfl)) (by kernel_rfl) (hO.sub (.cons_cons _ (.cons_cons _ (List.nil_sublist _)))) ?_
          clear hF; intro a hF
          refine A_many [0, 6] (by kernel_rfl) rfl ⟨?_, ?_, trivial⟩
          ·
            refine A_br (listed' := #[true, true, true, true, false, true, false, false, true, true, true, false, false]) rfl (by kernel_rfl) ?_
            refine OpK.new hF hO (by kernel_rfl) (by kernel_rfl) (vf := fun b => .slice (some ⟨b, 0, none⟩) 0 0) (ob := .cells #[] 23) (by kernel_rfl) (by kernel_rfl) ?_
            clear hF hO; intro b13 W33 a hO hF
            refine ⟨hO.sub (.cons _ (.cons_cons _ (.cons_cons _ (List.nil_sublist _)))), ?_⟩
            refine A_many [4, 6] (by kernel_rfl) rfl ⟨?_, ?_, trivial⟩
            ·
              refine A_br (listed' := #[true, true, true, true, true, true, false, false, true, true, true, false, false]) rfl (by kernel_rfl) ?_
              replace hO := hO.asRow (k := 2) (cap := 0) keyL ([] : List Key) (.head _) (by decide) (by kernel_rfl) (by decide) (by kernel_rfl)
              obtain ⟨p19, cap19, W34, hap, hO1, -⟩ := run_append_row (P := Tryd.prog) (ty := 36) (t := 36) (z := .agg #[.string (⟨#[]⟩ : ByteArray), .string (⟨#[]⟩ : ByteArray)]) (k := 2) (bytes := 32) (q := q) (ys := r.take at') (cq := qc) hO (.head _) (by kernel_rfl) (by kernel_rfl) (by kernel_rfl) (by decide) (fun _ => rfl) (fun _ => rfl) (SlAt.takeL (k := 2) (hO.row (List.mem_cons_of_mem _ (List.mem_cons_of_mem _ List.mem_cons_self))) (fun _ => rfl) at') (by (try simp only [List.length_append, List.length_take, List.length_drop, List.length_cons, List.length_nil, maxLen]); omega) (by (try simp only [List.length_append, List.length_take, List.length_drop, List.length_cons, List.length_nil, maxLen]); omega)
              refine OpK.valW hF (by kernel_rfl) (by kernel_rfl) (x_app hap rfl (by kernel_rfl) (by kernel_rfl) rfl) (by kernel_rfl) ?_
              clear hap hF; intro a hF; replace hO := hO1; clear hO1
              refine ⟨hO.sub (.cons _ (.cons_cons _ (.cons_cons _ (List.nil_sublist _)))), ?_⟩
              refine A_one (i := 6) (listed' := #[true, true, true, true, true, true, true, false, true, true, true, false, false]) (by kernel_rfl) rfl (by kernel_rfl) ?_
              refine OpK.new hF hO (by kernel_rfl) (by kernel_rfl) (vf := fun b => .slice (some ⟨b, 0, none⟩) 1 1) (ob := .cells #[.string ((nth l i).space), .string ((nth l i).name)] 23) (by kernel_rfl) (by kernel_rfl) ?_
              clear hF hO; intro b14 W35 a hO hF
              refine ⟨hO.sub (.cons _ (.cons _ (.cons_cons _ (.cons_cons _ (List.nil_sublist _))))), ?_⟩
              refine A_one (i := 7) (listed' := #[true, true, true, true, true, true, true, true, true, true, true, false, false]) (by kernel_rfl) rfl (by kernel_rfl) ?_
              obtain ⟨p20, cap20, W36, hap, hO1, -⟩ := run_append_row (P := Tryd.prog) (ty := 36) (t := 36) (z := .agg #[.string (⟨#[]⟩ : ByteArray), .string (⟨#[]⟩ : ByteArray)]) (k := 2) (bytes := 32) (q := some ⟨b14, 0, none⟩) (ys := ([(nth l i)] : List Key)) (cq := 1) hO (.tail (.head _)) (by kernel_rfl) (by kernel_rfl) (by kernel_rfl) (by decide) (fun _ => rfl) (fun _ => rfl) (SlAt.blk hO List.mem_cons_self (by kernel_rfl)) (by (try simp only [List.length_append, List.length_take, List.length_drop, List.length_cons, List.length_nil, maxLen]); omega) (by (try simp only [List.length_append, List.length_take, List.length_drop, List.length_cons, List.length_nil, maxLen]); omega)
              refine OpK.valW hF (by kernel_rfl) (by kernel_rfl) (x_app hap rfl (by kernel_rfl) (by kernel_rfl) rfl) (by kernel_rfl) ?_
              clear hap hF; intro a hF; replace hO := hO1; clear hO1
              refine ⟨hO.sub (.cons _ (.cons _ (.cons_cons _ (.cons_cons _ (List.nil_sublist _))))), ?_⟩
              refine A_one (i := 11) (listed' := #[true, true, true, true, true, true, true, true, true, true, true, true, false]) (by kernel_rfl) rfl (by kernel_rfl) ?_
              obtain ⟨p21, cap21, W37, hap, hO1, -⟩ := run_append_row (P := Tryd.prog) (ty := 36) (t := 36) (z := .agg #[.string (⟨#[]⟩ : ByteArray), .string (⟨#[]⟩ : ByteArray)]) (k := 2) (bytes := 32) (q := subP q qc at' 2) (ys := r.drop at') (cq := qc - at') hO (.head _) (by kernel_rfl) (by kernel_rfl) (by kernel_rfl) (by decide) (fun _ => rfl) (fun _ => rfl) (SlAt.dropL (k := 2) (hO.row (List.mem_cons_of_mem _ (List.mem_cons_of_mem _ (List.mem_cons_of_mem _ List.mem_cons_self)))) (fun _ => rfl) qc at' (by have := (hO.rowCap (List.mem_cons_of_mem _ (List.mem_cons_of_mem _ (List.mem_cons_of_mem _ List.mem_cons_self)))); (try simp only [List.length_take]); omega)) (by (try simp only [List.length_append, List.length_take, List.length_drop, List.length_cons, List.length_nil, maxLen]); omega) (by (try simp only [List.length_append, List.length_take, List.length_drop, List.length_cons, List.length_nil, maxLen]); omega)
              refine OpK.valW hF (by kernel_rfl) (by kernel_rfl) (x_app hap rfl (by kernel_rfl) (by kernel_rfl) rfl) (by kernel_rfl) ?_
              clear hap hF; intro a hF; replace hO := hO1; clear hO1
              refine ⟨hO.sub (.cons _ (.cons _ (.cons_cons _ (.cons_cons _ (List.nil_sublist _))))), ?_⟩
              refine A_take (i := 12) (listed' := #[true, true, true, true, true, true, true, true, true, true, true, true, true]) rfl (by kernel_rfl) (by kernel_rfl) (by kernel_rfl) (by kernel_rfl) hF (by kernel_rfl) (by kernel_rfl) (v := .slice p21 ((((r.take at') ++ ([(nth l i)] : List Key)) ++ (r.drop at')).length) cap21) (fun Wx _ => by kernel_rfl) (by kernel_rfl) (hO.sub (.cons _ (.cons _ (.cons_cons _ (.cons_cons _ (List.nil_sublist _)))))) ?_
              clear hF; intro a hF
              refine A_done (by kernel_rfl) ?_
              refine block_normal ?_
              refine hK7 _ _ ?_
              refine wp_region_lit ?_
              refine L_val hF (by kernel_rfl) (by kernel_rfl) (v := .int .i64 ((i : Int) + 1)) (x_int (x := IntKind.i64.wrap ((i : Int) + 1)) (i64In (by omega) (by omega)) (by kernel_rfl)) (by kernel_rfl) ?_
              clear hF; intro a hF
              refine L_val hF (by kernel_rfl) (by kernel_rfl) (v := .int .i64 ((i : Int) + 1)) (by kernel_rfl) (by kernel_rfl) ?_
              clear hF; intro a hF
              refine L_nil ?_
              refine hK_1 ((i + 1, p21, cap21, ((r.take at') ++ ([(nth l i)] : List Key)) ++ (r.drop at'))) _ _ (by first | omega | (dsimp only; omega)) ⟨(by have hps := posL_at hI2.1 hI2.2 (by first | exact .inl (by assumption) | exact .inr (by assumption)); first | exact sortRound0 hI (by omega) hps (by omega) (by assumption) | exact sortRound1 hI (by omega) hps (by first | exact .inl (by omega) | exact .inr (by assumption))), ?_, ?_⟩
              · exact hF.restrict ⟨(by kernel_rfl), (congrArg some (by first | rfl | exact congrArg (Value.int _) (by omega) | simp)), (by kernel_rfl), (by kernel_rfl), (congrArg some (by first | rfl | exact congrArg (Value.int _) (by omega) | simp)), trivial⟩
              · exact hO.sub (.cons_cons _ (List.nil_sublist _))
            ·
              refine A_br (listed' := #[true, true, true, true, false, true, true, false, true, true, true, false, false]) rfl (by kernel_rfl) ?_
              refine OpK.new hF hO (by kernel_rfl) (by kernel_rfl) (vf := fun b => .slice (some ⟨b, 0, none⟩) 1 1) (ob := .cells #[.string ((nth l i).space), .string ((nth l i).name)] 23) (by kernel_rfl) (by kernel_rfl) ?_
              clear hF hO; intro b15 W38 a hO hF
              refine ⟨hO.sub (.cons _ (.cons _ (.cons_cons _ (.cons_cons _ (List.nil_sublist _))))), ?_⟩
              refine A_one (i := 4) (listed' := #[true, true, true, true, true, true, true, false, true, true, true, false, false]) (by kernel_rfl) rfl (by kernel_rfl) ?_
              replace hO := hO.asRow (k := 2) (cap := 0) keyL ([] : List Key) (.tail (.head _)) (by decide) (by kernel_rfl) (by decide) (by kernel_rfl)
              obtain ⟨p22, cap22, W39, hap, hO1, -⟩ := run_append_row (P := Tryd.prog) (ty := 36) (t := 36) (z := .agg #[.string (⟨#[]⟩ : ByteArray), .string (⟨#[]⟩ : ByteArray)]) (k := 2) (bytes := 32) (q := q) (ys := r.take at') (cq := qc) hO (.tail (.head _)) (by kernel_rfl) (by kernel_rfl) (by kernel_rfl) (by decide) (fun _ => rfl) (fun _ => rfl) (SlAt.takeL (k := 2) (hO.row (List.mem_cons_of_mem _ (List.mem_cons_of_mem _ (List.mem_cons_of_mem _ List.mem_cons_self)))) (fun _ => rfl) at') (by (try simp only [List.length_append, List.length_take, List.length_drop, List.length_cons, List.length_nil, maxLen]); omega) (by (try simp only [List.length_append, List.length_take, List.length_drop, List.length_cons, List.length_nil, maxLen]); omega)
              refine OpK.valW hF (by kernel_rfl) (by kernel_rfl) (x_app hap rfl (by kernel_rfl) (by kernel_rfl) rfl) (by kernel_rfl) ?_
              clear hap hF; intro a hF; replace hO := hO1; clear hO1
              refine ⟨hO.sub (.cons _ (.cons _ (.cons_cons _ (.cons_cons _ (List.nil_sublist _))))), ?_⟩
              refine A_one (i := 7) (listed' := #[true, true, true, true, true, true, true, true, true, true, true, false, false]) (by kernel_rfl) rfl (by kernel_rfl) ?_
              obtain ⟨p23, cap23, W40, hap, hO1, -⟩ := run_append_row (P := Tryd.prog) (ty := 36) (t := 36) (z := .agg #[.string (⟨#[]⟩ : ByteArray), .string (⟨#[]⟩ : ByteArray)]) (k := 2) (bytes := 32) (q := some ⟨b15, 0, none⟩) (ys := ([(nth l i)] : List Key)) (cq := 1) hO (.head _) (by kernel_rfl) (by kernel_rfl) (by kernel_rfl) (by decide) (fun _ => rfl) (fun _ => rfl) (SlAt.blk hO (List.mem_cons_of_mem _ List.mem_cons_self) (by kernel_rfl)) (by (try simp only [List.length_append, List.length_take, List.length_drop, List.length_cons, List.length_nil, maxLen]); omega) (by (try simp only [List.length_append, List.length_take, List.length_drop, List.length_cons, List.length_nil, maxLen]); omega)
              refine OpK.valW hF (by kernel_rfl) (by kernel_rfl) (x_app hap rfl (by kernel_rfl) (by kernel_rfl) rfl) (by kernel_rfl) ?_
              clear hap hF; intro a hF; replace hO := hO1; clear hO1
              refine ⟨hO.sub (.cons _ (.cons _ (.cons_cons _ (.cons_cons _ (List.nil_sublist _))))), ?_⟩
              refine A_one (i := 11) (listed' := #[true, true, true, true, true, true, true, true, true, true, true, true, false]) (by kernel_rfl) rfl (by kernel_rfl) ?_
              obtain ⟨p24, cap24, W41, hap, hO1, -⟩ := run_append_row (P := Tryd.prog) (ty := 36) (t := 36) (z := .agg #[.string (⟨#[]⟩ : ByteArray), .string (⟨#[]⟩ : ByteArray)]) (k := 2) (bytes := 32) (q := subP q qc at' 2) (ys := r.drop at') (cq := qc - at') hO (.head _) (by kernel_rfl) (by kernel_rfl) (by kernel_rfl) (by decide) (fun _ => rfl) (fun _ => rfl) (SlAt.dropL (k := 2) (hO.row (List.mem_cons_of_mem _ (List.mem_cons_of_mem _ (List.mem_cons_of_mem _ List.mem_cons_self)))) (fun _ => rfl) qc at' (by have := (hO.rowCap (List.mem_cons_of_mem _ (List.mem_cons_of_mem _ (List.mem_cons_of_mem _ List.mem_cons_self)))); (try simp only [List.length_take]); omega)) (by (try simp only [List.length_append, List.length_take, List.length_drop, List.length_cons, List.length_nil, maxLen]); omega) (by (try simp only [List.length_append, List.length_take, List.length_drop, List.length_cons, List.length_nil, maxLen]); omega)
              refine OpK.valW hF (by kernel_rfl) (by kernel_rfl) (x_app hap rfl (by kernel_rfl) (by kernel_rfl) rfl) (by kernel_rfl) ?_
              clear hap hF; intro a hF; replace hO := hO1; clear hO1
              refine ⟨hO.sub (.cons _ (.cons _ (.cons_cons _ (.cons_cons _ (List.nil_sublist _))))), ?_⟩
              refine A_take (i := 12) (listed' := #[true, true, true, true, true, true, true, true, true, true, true, true, true]) rfl (by kernel_rfl) (by kernel_rfl) (by kernel_rfl) (by kernel_rfl) hF (by kernel_rfl) (by kernel_rfl) (v := .slice p24 ((((r.take at') ++ ([(nth l i)] : List Key)) ++ (r.drop at')).length) cap24) (fun Wx _ => by kernel_rfl) (by kernel_rfl) (hO.sub (.cons _ (.cons _ (.cons_cons _ (.cons_cons _ (List.nil_sublist _)))))) ?_
              clear hF; intro a hF
              refine A_done (by kernel_rfl) ?_
              refine block_normal ?_
              refine hK7 _ _ ?_
              refine wp_region_lit ?_
              refine L_val hF (by kernel_rfl) (by kernel_rfl) (v := .int .i64 ((i : Int) + 1)) (x_int (x := IntKind.i64.wrap ((i : Int) + 1)) (i64In (by omega) (by omega)) (by kernel_rfl)) (by kernel_rfl) ?_
              clear hF; intro a hF
              refine L_val hF (by kernel_rfl) (by kernel_rfl) (v := .int .i64 ((i : Int) + 1)) (by kernel_rfl) (by kernel_rfl) ?_
              clear hF; intro a hF
              refine L_nil ?_
              refine hK_1 ((i + 1, p24, cap24, ((r.take at') ++ ([(nth l i)] : List Key)) ++ (r.drop at'))) _ _ (by first | omega | (dsimp only; omega)) ⟨(by have hps := posL_at hI2.1 hI2.2 (by first | exact .inl (by assumption) | exact .inr (by assumption)); first | exact sortRound0 hI (by omega) hps (by omega) (by assumption) | exact sortRound1 hI (by omega) hps (by first | exact .inl (by omega) | exact .inr (by assumption))), ?_, ?_⟩
              · exact hF.restrict ⟨(by kernel_rfl), (congrArg some (by first | rfl | exact congrArg (Value.int _) (by omega) | simp)), (by kernel_rfl), (by kernel_rfl), (congrArg some (by first | rfl | exact congrArg (Value.int _) (by omega) | simp)), trivial⟩
              · exact hO.sub (.cons_cons _ (List.nil_sublist _))
          ·
            refine A_br (listed' := #[false, true, true, true, false, true, true, false, true, true, true, false, false]) rfl (by kernel_rfl) ?_
            refine OpK.new hF hO (by kernel_rfl) (by kernel_rfl) (vf := fun b => .slice (some ⟨b, 0, none⟩) 1 1) (ob := .cells #[.string ((nth l i).space), .string ((nth l i).name)] 23) (by kernel_rfl) (by kernel_rfl) ?_
            clear hF hO; intro b16 W42 a hO hF
            refine ⟨hO.sub (.cons _ (.cons_cons _ (.cons_cons _ (List.nil_sublist _)))), ?_⟩
            refine A_one (i := 0) (listed' := #[true, true, true, true, false, true, true, false, true, true, true, false, false]) (by kernel_rfl) rfl (by kernel_rfl) ?_
            refine OpK.new hF hO (by kernel_rfl) (by kernel_rfl) (vf := fun b => .slice (some ⟨b, 0, none⟩) 0 0) (ob := .cells #[] 23) (by kernel_rfl) (by kernel_rfl) ?_
            clear hF hO; intro b17 W43 a hO hF
            refine ⟨hO.sub (.cons _ (.cons _ (.cons_cons _ (.cons_cons _ (List.nil_sublist _))))), ?_⟩
            refine A_one (i := 4) (listed' := #[true, true, true, true, true, true, true, false, true, true, true, false, false]) (by kernel_rfl) rfl (by kernel_rfl) ?_
            replace hO := hO.asRow (k := 2) (cap := 0) keyL ([] : List Key) (.head _) (by decide) (by kernel_rfl) (by decide) (by kernel_rfl)
            obtain ⟨p25, cap25, W44, hap, hO1, -⟩ := run_append_row (P := Tryd.prog) (ty := 36) (t := 36) (z := .agg #[.string (⟨#[]⟩ : ByteArray), .string (⟨#[]⟩ : ByteArray)]) (k := 2) (bytes := 32) (q := q) (ys := r.take at') (cq := qc) hO (.head _) (by kernel_rfl) (by kernel_rfl) (by kernel_rfl) (by decide) (fun _ => rfl) (fun _ => rfl) (SlAt.takeL (k := 2) (hO.row (List.mem_cons_of_mem _ (List.mem_cons_of_mem _ (List.mem_cons_of_mem _ List.mem_cons_self)))) (fun _ => rfl) at') (by (try simp only [List.length_append, List.length_take, List.length_drop, List.length_cons, List.length_nil, maxLen]); omega) (by (try simp only [List.length_append, List.length_take, List.length_drop, List.length_cons, List.length_nil, maxLen]); omega)
            refine OpK.valW hF (by kernel_rfl) (by kernel_rfl) (x_app hap rfl (by kernel_rfl) (by kernel_rfl) rfl) (by kernel_rfl) ?_
            clear hap hF; intro a hF; replace hO := hO1; clear hO1
            refine ⟨hO.sub (.cons _ (.cons _ (.cons_cons _ (.cons_cons _ (List.nil_sublist _))))), ?_⟩
            refine A_one (i := 7) (listed' := #[true, true, true, true, true, true, true, true, true, true, true, false, false]) (by kernel_rfl) rfl (by kernel_rfl) ?_
            obtain ⟨p26, cap26, W45, hap, hO1, -⟩ := run_append_row (P := Tryd.prog) (ty := 36) (t := 36) (z := .agg #[.string (⟨#[]⟩ : ByteArray), .string (⟨#[]⟩ : ByteArray)]) (k := 2) (bytes := 32) (q := some ⟨b16, 0, none⟩) (ys := ([(nth l i)] : List Key)) (cq := 1) hO (.head _) (by kernel_rfl) (by kernel_rfl) (by kernel_rfl) (by decide) (fun _ => rfl) (fun _ => rfl) (SlAt.blk hO (List.mem_cons_of_mem _ List.mem_cons_self) (by kernel_rfl)) (by (try simp only [List.length_append, List.length_take, List.length_drop, List.length_cons, List.length_nil, maxLen]); omega) (by (try simp only [List.length_append, List.length_take, List.length_drop, List.length_cons, List.length_nil, maxLen]); omega)
            refine OpK.valW hF (by kernel_rfl) (by kernel_rfl) (x_app hap rfl (by kernel_rfl) (by kernel_rfl) rfl) (by kernel_rfl) ?_
            clear hap hF; intro a hF; replace hO := hO1; clear hO1
            refine ⟨hO.sub (.cons _ (.cons _ (.cons_cons _ (.cons_cons _ (List.nil_sublist _))))), ?_⟩
            refine A_one (i := 11) (listed' := #[true, true, true, true, true, true, true, true, true, true, true, true, false]) (by kernel_rfl) rfl (by kernel_rfl) ?_
            obtain ⟨p27, cap27, W46, hap, hO1, -⟩ := run_append_row (P := Tryd.prog) (ty := 36) (t := 36) (z := .agg #[.string (⟨#[]⟩ : ByteArray), .string (⟨#[]⟩ : ByteArray)]) (k := 2) (bytes := 32) (q := subP q qc at' 2) (ys := r.drop at') (cq := qc - at') hO (.head _) (by kernel_rfl) (by kernel_rfl) (by kernel_rfl) (by decide) (fun _ => rfl) (fun _ => rfl) (SlAt.dropL (k := 2) (hO.row (List.mem_cons_of_mem _ (List.mem_cons_of_mem _ (List.mem_cons_of_mem _ List.mem_cons_self)))) (fun _ => rfl) qc at' (by have := (hO.rowCap (List.mem_cons_of_mem _ (List.mem_cons_of_mem _ (List.mem_cons_of_mem _ List.mem_cons_self)))); (try simp only [List.length_take]); omega)) (by (try simp only [List.length_append, List.length_take, List.length_drop, List.length_cons, List.length_nil, maxLen]); omega) (by (try simp only [List.length_append, List.length_take, List.length_drop, List.length_cons, List.length_nil, maxLen]); omega)
            refine OpK.valW hF (by kernel_rfl) (by kernel_rfl) (x_app hap rfl (by kernel_rfl) (by kernel_rfl) rfl) (by kernel_rfl) ?_
            clear hap hF; intro a hF; replace hO := hO1; clear hO1
            refine ⟨hO.sub (.cons _ (.cons _ (.cons_cons _ (.cons_cons _ (List.nil_sublist _))))), ?_⟩
            refine A_take (i := 12) (listed' := #[true, true, true, true, true, true, true, true, true, true, true, true, true]) rfl (by kernel_rfl) (by kernel_rfl) (by kernel_rfl) (by kernel_rfl) hF (by kernel_rfl) (by kernel_rfl) (v := .slice p27 ((((r.take at') ++ ([(nth l i)] : List Key)) ++ (r.drop at')).length) cap27) (fun Wx _ => by kernel_rfl) (by kernel_rfl) (hO.sub (.cons _ (.cons _ (.cons_cons _ (.cons_cons _ (List.nil_sublist _)))))) ?_
            clear hF; intro a hF
            refine A_done (by kernel_rfl) ?_
            refine block_normal ?_
            refine hK7 _ _ ?_
            refine wp_region_lit ?_
            refine L_val hF (by kernel_rfl) (by kernel_rfl) (v := .int .i64 ((i : Int) + 1)) (x_int (x := IntKind.i64.wrap ((i : Int) + 1)) (i64In (by omega) (by omega)) (by kernel_rfl)) (by kernel_rfl) ?_
            clear hF; intro a hF
            refine L_val hF (by kernel_rfl) (by kernel_rfl) (v := .int .i64 ((i : Int) + 1)) (by kernel_rfl) (by kernel_rfl) ?_
            clear hF; intro a hF
            refine L_nil ?_
            refine hK_1 ((i + 1, p27, cap27, ((r.take at') ++ ([(nth l i)] : List Key)) ++ (r.drop at'))) _ _ (by first | omega | (dsimp only; omega)) ⟨(by have hps := posL_at hI2.1 hI2.2 (by first | exact .inl (by assumption) | exact .inr (by assumption)); first | exact sortRound0 hI (by omega) hps (by omega) (by assumption) | exact sortRound1 hI (by omega) hps (by first | exact .inl (by omega) | exact .inr (by assumption))), ?_, ?_⟩
            · exact hF.restrict ⟨(by kernel_rfl), (congrArg some (by first | rfl | exact congrArg (Value.int _) (by omega) | simp)), (by kernel_rfl), (by kernel_rfl), (congrArg some (by first | rfl | exact congrArg (Value.int _) (by omega) | simp)), trivial⟩
            · exact hO.sub (.cons_cons _ (List.nil_sublist _))
      ·
        replace hF := hF.know (d := 32) (v' := .bool false) (by kernel_rfl) (congrArg Value.bool (decide_eq_false q6))
        refine A_takeOff (i := 3) (listed' := #[true, true, true, true, false, false, false, false, false, false, false]) rfl (by kernel_rfl) (by kernel_rfl) (by kernel_rfl) (by kernel_rfl) hF (by kernel_rfl) (by kernel_rfl) (hO.sub (.cons_cons _ (.cons_cons _ (List.nil_sublist _)))) ?_
        clear hF; intro a hF
        refine A_takeOff (i := 4) (listed' := #[true, true, true, true, true, false, false, false, false, false, false]) rfl (by kernel_rfl) (by kernel_rfl) (by kernel_rfl) (by kernel_rfl) hF (by kernel_rfl) (by kernel_rfl) (hO.sub (.cons_cons _ (.cons_cons _ (List.nil_sublist _)))) ?_
        clear hF; intro a hF
        refine A_takeOff (i := 5) (listed' := #[true, true, true, true, true, true, false, false, false, false, false]) rfl (by kernel_rfl) (by kernel_rfl) (by kernel_rfl) (by kernel_rfl) hF (by kernel_rfl) (by kernel_rfl) (hO.sub (.cons_cons _ (.cons_cons _ (List.nil_sublist _)))) ?_
        clear hF; intro a hF
        refine A_takeOff (i := 6) (listed' := #[true, true, true, true, true, true, true, false, false, false, false]) rfl (by kernel_rfl) (by kernel_rfl) (by kernel_rfl) (by kernel_rfl) hF (by kernel_rfl) (by kernel_rfl) (hO.sub (.cons_cons _ (.cons_cons _ (List.nil_sublist _)))) ?_
        clear hF; intro a hF
        refine A_takeOff (i := 7) (listed' := #[true, true, true, true, true, true, true, true, false, false, false]) rfl (by kernel_rfl) (by kernel_rfl) (by kernel_rfl) (by kernel_rfl) hF (by kernel_rfl) (by kernel_rfl) (hO.sub (.cons_cons _ (.cons_cons _ (List.nil_sublist _)))) ?_
        clear hF; intro a hF
        refine A_takeOff (i := 8) (listed' := #[true, true, true, true, true, true, true, true, true, false, false]) rfl (by kernel_rfl) (by kernel_rfl) (by kernel_rfl) (by kernel_rfl) hF (by kernel_rfl) (by kernel_rfl) (hO.sub (.cons_cons _ (.cons_cons _ (List.nil_sublist _)))) ?_
        clear hF; intro a hF
        refine A_takeOff (i := 9) (listed' := #[true, true, true, true, true, true, true, true, true, true, false]) rfl (by kernel_rfl) (by kernel_rfl) (by kernel_rfl) (by kernel_rfl) hF (by kernel_rfl) (by kernel_rfl) (hO.sub (.cons_cons _ (.cons_cons _ (List.nil_sublist _)))) ?_
        clear hF; intro a hF
        refine A_take (i := 10) (listed' := #[true, true, true, true, true, true, true, true, true, true, true]) rfl (by kernel_rfl) (by kernel_rfl) (by kernel_rfl) (by kernel_rfl) hF (by kernel_rfl) (by kernel_rfl) (v := .bool false) (fun Wx _ => by kernel_rfl) (by kernel_rfl) (hO.sub (.cons_cons _ (.cons_cons _ (List.nil_sublist _)))) ?_
        clear hF; intro a hF
        refine A_done (by kernel_rfl) ?_
        refine hK16 _ _ ?_
        refine cond_f hF (by kernel_rfl) (by kernel_rfl) ?_
        refine wp_skip ?_
        refine hK15 _ _ ?_
        refine A_start (fun Wx => Own W noX [.blk b2 (.cells #[.string ((nth l i).space), .string ((nth l i).name)] 23 (0, 0)), rowL keyL 2 23 q qc r] Wx) (by kernel_rfl) ?_
        replace hO := hO.drewN 1
        generalize hWd : ({ Wl2_d_d with drawn := Wl2_d_d.drawn + 1 } : World) = Wl2_d_d_d at hO ⊢; clear hWd
        refine A_take (i := 1) (listed' := #[false, true, false, false, false, false, false, false, false, false, false, false, false]) rfl (by kernel_rfl) (by kernel_rfl) (by kernel_rfl) (by kernel_rfl) hF (by kernel_rfl) (by kernel_rfl) (v := .slice q r.length qc) (fun Wx _ => by kernel_rfl) (by kernel_rfl) (hO.sub (.cons_cons _ (.cons_cons _ (List.nil_sublist _)))) ?_
        clear hF; intro a hF
        refine A_take (i := 2) (listed' := #[false, true, true, false, false, false, false, false, false, false, false, false, false]) rfl (by kernel_rfl) (by kernel_rfl) (by kernel_rfl) (by kernel_rfl) hF (by kernel_rfl) (by kernel_rfl) (v := .int .i64 ((at' : Int))) (fun Wx _ => by kernel_rfl) (by kernel_rfl) (hO.sub (.cons_cons _ (.cons_cons _ (List.nil_sublist _)))) ?_
        clear hF; intro a hF
        refine A_take (i := 3) (listed' := #[false, true, true, true, false, false, false, false, false, false, false, false, false]) rfl (by kernel_rfl) (by kernel_rfl) (by kernel_rfl) (by kernel_rfl) hF (by kernel_rfl) (by kernel_rfl) (v := .slice q ((r.take at').length) qc) (fun Wx _ => (x_slSlH (p := q) (len := r.length) (cap := qc) (elem := 23) (k := 2) (hi := (at' : Int)) rfl (by kernel_rfl) (by kernel_rfl) (by kernel_rfl) ⟨.i64, (by kernel_rfl)⟩ (by omega) (by have := (hO.rowCap (List.mem_cons_of_mem _ List.mem_cons_self)); omega) (by (first | omega | (simp only [List.length_set, List.length_take, List.length_drop, List.length_append, List.length_cons, List.length_nil]; done) | (simp only [List.length_set, List.length_take, List.length_drop, List.length_append, List.length_cons, List.length_nil]; omega) | (simp only [List.length_set, List.length_take, List.length_drop, List.length_append, List.length_cons, List.length_nil] at *; omega))))) (by kernel_rfl) (hO.sub (.cons_cons _ (.cons_cons _ (List.nil_sublist _)))) ?_
        clear hF; intro a hF
        refine A_take (i := 5) (listed' := #[false, true, true, true, false, true, false, false, false, false, false, false, false]) rfl (by kernel_rfl) (by kernel_rfl) (by kernel_rfl) (by kernel_rfl) hF (by kernel_rfl) (by kernel_rfl) (v := .agg #[.string ((nth l i).space), .string ((nth l i).name)]) (fun Wx hO => x_load (p := .pointer (some ⟨b2, 0, none⟩)) rfl (by kernel_rfl) (run_loadA (k := 2) (by kernel_rfl) (by kernel_rfl) (hO.blk List.mem_cons_self) (by kernel_rfl) (by kernel_rfl))) (by kernel_rfl) (hO.sub (.cons_cons _ (.cons_cons _ (List.nil_sublist _)))) ?_
        clear hF; intro a hF
        refine A_take (i := 8) (listed' := #[false, true, true, true, false, true, false, false, true, false, false, false, false]) rfl (by kernel_rfl) (by kernel_rfl) (by kernel_rfl) (by kernel_rfl) hF (by kernel_rfl) (by kernel_rfl) (v := .slice q r.length qc) (fun Wx _ => by kernel_rfl) (by kernel_rfl) (hO.sub (.cons_cons _ (.cons_cons _ (List.nil_sublist _)))) ?_
        clear hF; intro a hF
        refine A_take (i := 9) (listed' := #[false, true, true, true, false, true, false, false, true, true, false, false, false]) rfl (by kernel_rfl) (by kernel_rfl) (by kernel_rfl) (by kernel_rfl) hF (by kernel_rfl) (by kernel_rfl) (v := .int .i64 ((at' : Int))) (fun Wx _ => by kernel_rfl) (by kernel_rfl) (hO.sub (.cons_cons _ (.cons_cons _ (List.nil_sublist _)))) ?_
        clear hF; intro a hF
        refine A_take (i := 10) (listed' := #[false, true, true, true, false, true, false, false, true, true, true, false, false]) rfl (by kernel_rfl) (by kernel_rfl) (by kernel_rfl) (by kernel_rfl) hF (by kernel_rfl) (by kernel_rfl) (v := .slice (subP q qc at' 2) ((r.drop at').length) (qc - at')) (fun Wx _ => (x_slSlL (p := q) (len := r.length) (cap := qc) (elem := 23) (k := 2) (lo := (at' : Int)) (hi := (r.length : Int)) rfl (by kernel_rfl) (by kernel_rfl) (by kernel_rfl) ⟨.i64, (by kernel_rfl)⟩ rfl (by omega) (by omega) (by have := (hO.rowCap (List.mem_cons_of_mem _ List.mem_cons_self)); omega) (by simp only [List.length_drop, List.length_take]; omega) rfl)) (by kernel_rfl) (hO.sub (.cons_cons _ (.cons_cons _ (List.nil_sublist _)))) ?_
        clear hF; intro a hF
        refine A_many [0, 6] (by kernel_rfl) rfl ⟨?_, ?_, trivial⟩
        ·
          refine A_br (listed' := #[true, true, true, true, false, true, false, false, true, true, true, false, false]) rfl (by kernel_rfl) ?_
          refine OpK.new hF hO (by kernel_rfl) (by kernel_rfl) (vf := fun b => .slice (some ⟨b, 0, none⟩) 0 0) (ob := .cells #[] 23) (by kernel_rfl) (by kernel_rfl) ?_
          clear hF hO; intro b18 W47 a hO hF
          refine ⟨hO.sub (.cons _ (.cons_cons _ (.cons_cons _ (List.nil_sublist _)))), ?_⟩
          refine A_many [4, 6] (by kernel_rfl) rfl ⟨?_, ?_, trivial⟩
          ·
            refine A_br (listed' := #[true, true, true, true, true, true, false, false, true, true, true, false, false]) rfl (by kernel_rfl) ?_
            replace hO := hO.asRow (k := 2) (cap := 0) keyL ([] : List Key) (.head _) (by decide) (by kernel_rfl) (by decide) (by kernel_rfl)
            obtain ⟨p28, cap28, W48, hap, hO1, -⟩ := run_append_row (P := Tryd.prog) (ty := 36) (t := 36) (z := .agg #[.string (⟨#[]⟩ : ByteArray), .string (⟨#[]⟩ : ByteArray)]) (k := 2) (bytes := 32) (q := q) (ys := r.take at') (cq := qc) hO (.head _) (by kernel_rfl) (by kernel_rfl) (by kernel_rfl) (by decide) (fun _ => rfl) (fun _ => rfl) (SlAt.takeL (k := 2) (hO.row (List.mem_cons_of_mem _ (List.mem_cons_of_mem _ List.mem_cons_self))) (fun _ => rfl) at') (by (try simp only [List.length_append, List.length_take, List.length_drop, List.length_cons, List.length_nil, maxLen]); omega) (by (try simp only [List.length_append, List.length_take, List.length_drop, List.length_cons, List.length_nil, maxLen]); omega)
            refine OpK.valW hF (by kernel_rfl) (by kernel_rfl) (x_app hap rfl (by kernel_rfl) (by kernel_rfl) rfl) (by kernel_rfl) ?_
            clear hap hF; intro a hF; replace hO := hO1; clear hO1
            refine ⟨hO.sub (.cons _ (.cons_cons _ (.cons_cons _ (List.nil_sublist _)))), ?_⟩
            refine A_one (i := 6) (listed' := #[true, true, true, true, true, true, true, false, true, true, true, false, false]) (by kernel_rfl) rfl (by kernel_rfl) ?_
            refine OpK.new hF hO (by kernel_rfl) (by kernel_rfl) (vf := fun b => .slice (some ⟨b, 0, none⟩) 1 1) (ob := .cells #[.string ((nth l i).space), .string ((nth l i).name)] 23) (by kernel_rfl) (by kernel_rfl) ?_
            clear hF hO; intro b19 W49 a hO hF
            refine ⟨hO.sub (.cons _ (.cons _ (.cons_cons _ (.cons_cons _ (List.nil_sublist _))))), ?_⟩
            refine A_one (i := 7) (listed' := #[true, true, true, true, true, true, true, true, true, true, true, false, false]) (by kernel_rfl) rfl (by kernel_rfl) ?_
            obtain ⟨p29, cap29, W50, hap, hO1, -⟩ := run_append_row (P := Tryd.prog) (ty := 36) (t := 36) (z := .agg #[.string (⟨#[]⟩ : ByteArray), .string (⟨#[]⟩ : ByteArray)]) (k := 2) (bytes := 32) (q := some ⟨b19, 0, none⟩) (ys := ([(nth l i)] : List Key)) (cq := 1) hO (.tail (.head _)) (by kernel_rfl) (by kernel_rfl) (by kernel_rfl) (by decide) (fun _ => rfl) (fun _ => rfl) (SlAt.blk hO List.mem_cons_self (by kernel_rfl)) (by (try simp only [List.length_append, List.length_take, List.length_drop, List.length_cons, List.length_nil, maxLen]); omega) (by (try simp only [List.length_append, List.length_take, List.length_drop, List.length_cons, List.length_nil, maxLen]); omega)
            refine OpK.valW hF (by kernel_rfl) (by kernel_rfl) (x_app hap rfl (by kernel_rfl) (by kernel_rfl) rfl) (by kernel_rfl) ?_
            clear hap hF; intro a hF; replace hO := hO1; clear hO1
            refine ⟨hO.sub (.cons _ (.cons _ (.cons_cons _ (.cons_cons _ (List.nil_sublist _))))), ?_⟩
            refine A_one (i := 11) (listed' := #[true, true, true, true, true, true, true, true, true, true, true, true, false]) (by kernel_rfl) rfl (by kernel_rfl) ?_
            obtain ⟨p30, cap30, W51, hap, hO1, -⟩ := run_append_row (P := Tryd.prog) (ty := 36) (t := 36) (z := .agg #[.string (⟨#[]⟩ : ByteArray), .string (⟨#[]⟩ : ByteArray)]) (k := 2) (bytes := 32) (q := subP q qc at' 2) (ys := r.drop at') (cq := qc - at') hO (.head _) (by kernel_rfl) (by kernel_rfl) (by kernel_rfl) (by decide) (fun _ => rfl) (fun _ => rfl) (SlAt.dropL (k := 2) (hO.row (List.mem_cons_of_mem _ (List.mem_cons_of_mem _ (List.mem_cons_of_mem _ List.mem_cons_self)))) (fun _ => rfl) qc at' (by have := (hO.rowCap (List.mem_cons_of_mem _ (List.mem_cons_of_mem _ (List.mem_cons_of_mem _ List.mem_cons_self)))); (try simp only [List.length_take]); omega)) (by (try simp only [List.length_append, List.length_take, List.length_drop, List.length_cons, List.length_nil, maxLen]); omega) (by (try simp only [List.length_append, List.length_take, List.length_drop, List.length_cons, List.length_nil, maxLen]); omega)
            refine OpK.valW hF (by kernel_rfl) (by kernel_rfl) (x_app hap rfl (by kernel_rfl) (by kernel_rfl) rfl) (by kernel_rfl) ?_
            clear hap hF; intro a hF; replace hO := hO1; clear hO1
            refine ⟨hO.sub (.cons _ (.cons _ (.cons_cons _ (.cons_cons _ (List.nil_sublist _))))), ?_⟩
            refine A_take (i := 12) (listed' := #[true, true, true, true, true, true, true, true, true, true, true, true, true]) rfl (by kernel_rfl) (by kernel_rfl) (by kernel_rfl) (by kernel_rfl) hF (by kernel_rfl) (by kernel_rfl) (v := .slice p30 ((((r.take at') ++ ([(nth l i)] : List Key)) ++ (r.drop at')).length) cap30) (fun Wx _ => by kernel_rfl) (by kernel_rfl) (hO.sub (.cons _ (.cons _ (.cons_cons _ (.cons_cons _ (List.nil_sublist _)))))) ?_
            clear hF; intro a hF
            refine A_done (by kernel_rfl) ?_
            refine block_normal ?_
            refine hK7 _ _ ?_
            refine wp_region_lit ?_
            refine L_val hF (by kernel_rfl) (by kernel_rfl) (v := .int .i64 ((i : Int) + 1)) (x_int (x := IntKind.i64.wrap ((i : Int) + 1)) (i64In (by omega) (by omega)) (by kernel_rfl)) (by kernel_rfl) ?_
            clear hF; intro a hF
            refine L_val hF (by kernel_rfl) (by kernel_rfl) (v := .int .i64 ((i : Int) + 1)) (by kernel_rfl) (by kernel_rfl) ?_
            clear hF; intro a hF
            refine L_nil ?_
            refine hK_1 ((i + 1, p30, cap30, ((r.take at') ++ ([(nth l i)] : List Key)) ++ (r.drop at'))) _ _ (by first | omega | (dsimp only; omega)) ⟨(by have hps := posL_at hI2.1 hI2.2 (by first | exact .inl (by assumption) | exact .inr (by assumption)); first | exact sortRound0 hI (by omega) hps (by omega) (by assumption) | exact sortRound1 hI (by omega) hps (by first | exact .inl (by omega) | exact .inr (by assumption))), ?_, ?_⟩
            · exact hF.restrict ⟨(by kernel_rfl), (congrArg some (by first | rfl | exact congrArg (Value.int _) (by omega) | simp)), (by kernel_rfl), (by kernel_rfl), (congrArg some (by first | rfl | exact congrArg (Value.int _) (by omega) | simp)), trivial⟩
            · exact hO.sub (.cons_cons _ (List.nil_sublist _))
          ·
            refine A_br (listed' := #[true, true, true, true, false, true, true, false, true, true, true, false, false]) rfl (by kernel_rfl) ?_
            refine OpK.new hF hO (by kernel_rfl) (by kernel_rfl) (vf := fun b => .slice (some ⟨b, 0, none⟩) 1 1) (ob := .cells #[.string ((nth l i).space), .string ((nth l i).name)] 23) (by kernel_rfl) (by kernel_rfl) ?_
            clear hF hO; intro b20 W52 a hO hF
            refine ⟨hO.sub (.cons _ (.cons _ (.cons_cons _ (.cons_cons _ (List.nil_sublist _))))), ?_⟩
            refine A_one (i := 4) (listed' := #[true, true, true, true, true, true, true, false, true, true, true, false, false]) (by kernel_rfl) rfl (by kernel_rfl) ?_
            replace hO := hO.asRow (k := 2) (cap := 0) keyL ([] : List Key) (.tail (.head _)) (by decide) (by kernel_rfl) (by decide) (by kernel_rfl)
            obtain ⟨p31, cap31, W53, hap, hO1, -⟩ := run_append_row (P := Tryd.prog) (ty := 36) (t := 36) (z := .agg #[.string (⟨#[]⟩ : ByteArray), .string (⟨#[]⟩ : ByteArray)]) (k := 2) (bytes := 32) (q := q) (ys := r.take at') (cq := qc) hO (.tail (.head _)) (by kernel_rfl) (by kernel_rfl) (by kernel_rfl) (by decide) (fun _ => rfl) (fun _ => rfl) (SlAt.takeL (k := 2) (hO.row (List.mem_cons_of_mem _ (List.mem_cons_of_mem _ (List.mem_cons_of_mem _ List.mem_cons_self)))) (fun _ => rfl) at') (by (try simp only [List.length_append, List.length_take, List.length_drop, List.length_cons, List.length_nil, maxLen]); omega) (by (try simp only [List.length_append, List.length_take, List.length_drop, List.length_cons, List.length_nil, maxLen]); omega)
            refine OpK.valW hF (by kernel_rfl) (by kernel_rfl) (x_app hap rfl (by kernel_rfl) (by kernel_rfl) rfl) (by kernel_rfl) ?_
            clear hap hF; intro a hF; replace hO := hO1; clear hO1
            refine ⟨hO.sub (.cons _ (.cons _ (.cons_cons _ (.cons_cons _ (List.nil_sublist _))))), ?_⟩
            refine A_one (i := 7) (listed' := #[true, true, true, true, true, true, true, true, true, true, true, false, false]) (by kernel_rfl) rfl (by kernel_rfl) ?_
            obtain ⟨p32, cap32, W54, hap, hO1, -⟩ := run_append_row (P := Tryd.prog) (ty := 36) (t := 36) (z := .agg #[.string (⟨#[]⟩ : ByteArray), .string (⟨#[]⟩ : ByteArray)]) (k := 2) (bytes := 32) (q := some ⟨b20, 0, none⟩) (ys := ([(nth l i)] : List Key)) (cq := 1) hO (.head _) (by kernel_rfl) (by kernel_rfl) (by kernel_rfl) (by decide) (fun _ => rfl) (fun _ => rfl) (SlAt.blk hO (List.mem_cons_of_mem _ List.mem_cons_self) (by kernel_rfl)) (by (try simp only [List.length_append, List.length_take, List.length_drop, List.length_cons, List.length_nil, maxLen]); omega) (by (try simp only [List.length_append, List.length_take, List.length_drop, List.length_cons, List.length_nil, maxLen]); omega)
            refine OpK.valW hF (by kernel_rfl) (by kernel_rfl) (x_app hap rfl (by kernel_rfl) (by kernel_rfl) rfl) (by kernel_rfl) ?_
            clear hap hF; intro a hF; replace hO := hO1; clear hO1
            refine ⟨hO.sub (.cons _ (.cons _ (.cons_cons _ (.cons_cons _ (List.nil_sublist _))))), ?_⟩
            refine A_one (i := 11) (listed' := #[true, true, true, true, true, true, true, true, true, true, true, true, false]) (by kernel_rfl) rfl (by kernel_rfl) ?_
            obtain ⟨p33, cap33, W55, hap, hO1, -⟩ := run_append_row (P := Tryd.prog) (ty := 36) (t := 36) (z := .agg #[.string (⟨#[]⟩ : ByteArray), .string (⟨#[]⟩ : ByteArray)]) (k := 2) (bytes := 32) (q := subP q qc at' 2) (ys := r.drop at') (cq := qc - at') hO (.head _) (by kernel_rfl) (by kernel_rfl) (by kernel_rfl) (by decide) (fun _ => rfl) (fun _ => rfl) (SlAt.dropL (k := 2) (hO.row (List.mem_cons_of_mem _ (List.mem_cons_of_mem _ (List.mem_cons_of_mem _ List.mem_cons_self)))) (fun _ => rfl) qc at' (by have := (hO.rowCap (List.mem_cons_of_mem _ (List.mem_cons_of_mem _ (List.mem_cons_of_mem _ List.mem_cons_self)))); (try simp only [List.length_take]); omega)) (by (try simp only [List.length_append, List.length_take, List.length_drop, List.length_cons, List.length_nil, maxLen]); omega) (by (try simp only [List.length_append, List.length_take, List.length_drop, List.length_cons, List.length_nil, maxLen]); omega)
            refine OpK.valW hF (by kernel_rfl) (by kernel_rfl) (x_app hap rfl (by kernel_rfl) (by kernel_rfl) rfl) (by kernel_rfl) ?_
            clear hap hF; intro a hF; replace hO := hO1; clear hO1
            refine ⟨hO.sub (.cons _ (.cons _ (.cons_cons _ (.cons_cons _ (List.nil_sublist _))))), ?_⟩
            refine A_take (i := 12) (listed' := #[true, true, true, true, true, true, true, true, true, true, true, true, true]) rfl (by kernel_rfl) (by kernel_rfl) (by kernel_rfl) (by kernel_rfl) hF (by kernel_rfl) (by kernel_rfl) (v := .slice p33 ((((r.take at') ++ ([(nth l i)] : List Key)) ++ (r.drop at')).length) cap33) (fun Wx _ => by kernel_rfl) (by kernel_rfl) (hO.sub (.cons _ (.cons _ (.cons_cons _ (.cons_cons _ (List.nil_sublist _)))))) ?_
            clear hF; intro a hF
            refine A_done (by kernel_rfl) ?_
            refine block_normal ?_
            refine hK7 _ _ ?_
            refine wp_region_lit ?_
            refine L_val hF (by kernel_rfl) (by kernel_rfl) (v := .int .i64 ((i : Int) + 1)) (x_int (x := IntKind.i64.wrap ((i : Int) + 1)) (i64In (by omega) (by omega)) (by kernel_rfl)) (by kernel_rfl) ?_
            clear hF; intro a hF
            refine L_val hF (by kernel_rfl) (by kernel_rfl) (v := .int .i64 ((i : Int) + 1)) (by kernel_rfl) (by kernel_rfl) ?_
            clear hF; intro a hF
            refine L_nil ?_
            refine hK_1 ((i + 1, p33, cap33, ((r.take at') ++ ([(nth l i)] : List Key)) ++ (r.drop at'))) _ _ (by first | omega | (dsimp only; omega)) ⟨(by have hps := posL_at hI2.1 hI2.2 (by first | exact .inl (by assumption) | exact .inr (by assumption)); first | exact sortRound0 hI (by omega) hps (by omega) (by assumption) | exact sortRound1 hI (by omega) hps (by first | exact .inl (by omega) | exact .inr (by assumption))), ?_, ?_⟩
            · exact hF.restrict ⟨(by kernel_rfl), (congrArg some (by first | rfl | exact congrArg (Value.int _) (by omega) | simp)), (by kernel_rfl), (by kernel_rfl), (congrArg some (by first | rfl | exact congrArg (Value.int _) (by omega) | simp)), trivial⟩
            · exact hO.sub (.cons_cons _ (List.nil_sublist _))
        ·
          refine A_br (listed' := #[false, true, true, true, false, true, true, false, true, true, true, false, false]) rfl (by kernel_rfl) ?_
          refine OpK.new hF hO (by kernel_rfl) (by kernel_rfl) (vf := fun b => .slice (some ⟨b, 0, none⟩) 1 1) (ob := .cells #[.string ((nth l i).space), .string ((nth l i).name)] 23) (by kernel_rfl) (by kernel_rfl) ?_
          clear hF hO; intro b21 W56 a hO hF
          refine ⟨hO.sub (.cons _ (.cons_cons _ (.cons_cons _ (List.nil_sublist _)))), ?_⟩
          refine A_one (i := 0) (listed' := #[true, true, true, true, false, true, true, false, true, true, true, false, false]) (by kernel_rfl) rfl (by kernel_rfl) ?_
          refine OpK.new hF hO (by kernel_rfl) (by kernel_rfl) (vf := fun b => .slice (some ⟨b, 0, none⟩) 0 0) (ob := .cells #[] 23) (by kernel_rfl) (by kernel_rfl) ?_
          clear hF hO; intro b22 W57 a hO hF
          refine ⟨hO.sub (.cons _ (.cons _ (.cons_cons _ (.cons_cons _ (List.nil_sublist _))))), ?_⟩
          refine A_one (i := 4) (listed' := #[true, true, true, true, true, true, true, false, true, true, true, false, false]) (by kernel_rfl) rfl (by kernel_rfl) ?_
          replace hO := hO.asRow (k := 2) (cap := 0) keyL ([] : List Key) (.head _) (by decide) (by kernel_rfl) (by decide) (by kernel_rfl)
          obtain ⟨p34, cap34, W58, hap, hO1, -⟩ := run_append_row (P := Tryd.prog) (ty := 36) (t := 36) (z := .agg #[.string (⟨#[]⟩ : ByteArray), .string (⟨#[]⟩ : ByteArray)]) (k := 2) (bytes := 32) (q := q) (ys := r.take at') (cq := qc) hO (.head _) (by kernel_rfl) (by kernel_rfl) (by kernel_rfl) (by decide) (fun _ => rfl) (fun _ => rfl) (SlAt.takeL (k := 2) (hO.row (List.mem_cons_of_mem _ (List.mem_cons_of_mem _ (List.mem_cons_of_mem _ List.mem_cons_self)))) (fun _ => rfl) at') (by (try simp only [List.length_append, List.length_take, List.length_drop, List.length_cons, List.length_nil, maxLen]); omega) (by (try simp only [List.length_append, List.length_take, List.length_drop, List.length_cons, List.length_nil, maxLen]); omega)
          refine OpK.valW hF (by kernel_rfl) (by kernel_rfl) (x_app hap rfl (by kernel_rfl) (by kernel_rfl) rfl) (by kernel_rfl) ?_
          clear hap hF; intro a hF; replace hO := hO1; clear hO1
          refine ⟨hO.sub (.cons _ (.cons _ (.cons_cons _ (.cons_cons _ (List.nil_sublist _))))), ?_⟩
          refine A_one (i := 7) (listed' := #[true, true, true, true, true, true, true, true, true, true, true, false, false]) (by kernel_rfl) rfl (by kernel_rfl) ?_
          obtain ⟨p35, cap35, W59, hap, hO1, -⟩ := run_append_row (P := Tryd.prog) (ty := 36) (t := 36) (z := .agg #[.string (⟨#[]⟩ : ByteArray), .string (⟨#[]⟩ : ByteArray)]) (k := 2) (bytes := 32) (q := some ⟨b21, 0, none⟩) (ys := ([(nth l i)] : List Key)) (cq := 1) hO (.head _) (by kernel_rfl) (by kernel_rfl) (by kernel_rfl) (by decide) (fun _ => rfl) (fun _ => rfl) (SlAt.blk hO (List.mem_cons_of_mem _ List.mem_cons_self) (by kernel_rfl)) (by (try simp only [List.length_append, List.length_take, List.length_drop, List.length_cons, List.length_nil, maxLen]); omega) (by (try simp only [List.length_append, List.length_take, List.length_drop, List.length_cons, List.length_nil, maxLen]); omega)
          refine OpK.valW hF (by kernel_rfl) (by kernel_rfl) (x_app hap rfl (by kernel_rfl) (by kernel_rfl) rfl) (by kernel_rfl) ?_
          clear hap hF; intro a hF; replace hO := hO1; clear hO1
          refine ⟨hO.sub (.cons _ (.cons _ (.cons_cons _ (.cons_cons _ (List.nil_sublist _))))), ?_⟩
          refine A_one (i := 11) (listed' := #[true, true, true, true, true, true, true, true, true, true, true, true, false]) (by kernel_rfl) rfl (by kernel_rfl) ?_
          obtain ⟨p36, cap36, W60, hap, hO1, -⟩ := run_append_row (P := Tryd.prog) (ty := 36) (t := 36) (z := .agg #[.string (⟨#[]⟩ : ByteArray), .string (⟨#[]⟩ : ByteArray)]) (k := 2) (bytes := 32) (q := subP q qc at' 2) (ys := r.drop at') (cq := qc - at') hO (.head _) (by kernel_rfl) (by kernel_rfl) (by kernel_rfl) (by decide) (fun _ => rfl) (fun _ => rfl) (SlAt.dropL (k := 2) (hO.row (List.mem_cons_of_mem _ (List.mem_cons_of_mem _ (List.mem_cons_of_mem _ List.mem_cons_self)))) (fun _ => rfl) qc at' (by have := (hO.rowCap (List.mem_cons_of_mem _ (List.mem_cons_of_mem _ (List.mem_cons_of_mem _ List.mem_cons_self)))); (try simp only [List.length_take]); omega)) (by (try simp only [List.length_append, List.length_take, List.length_drop, List.length_cons, List.length_nil, maxLen]); omega) (by (try simp only [List.length_append, List.length_take, List.length_drop, List.length_cons, List.length_nil, maxLen]); omega)
          refine OpK.valW hF (by kernel_rfl) (by kernel_rfl) (x_app hap rfl (by kernel_rfl) (by kernel_rfl) rfl) (by kernel_rfl) ?_
          clear hap hF; intro a hF; replace hO := hO1; clear hO1
          refine ⟨hO.sub (.cons _ (.cons _ (.cons_cons _ (.cons_cons _ (List.nil_sublist _))))), ?_⟩
          refine A_take (i := 12) (listed' := #[true, true, true, true, true, true, true, true, true, true, true, true, true]) rfl (by kernel_rfl) (by kernel_rfl) (by kernel_rfl) (by kernel_rfl) hF (by kernel_rfl) (by kernel_rfl) (v := .slice p36 ((((r.take at') ++ ([(nth l i)] : List Key)) ++ (r.drop at')).length) cap36) (fun Wx _ => by kernel_rfl) (by kernel_rfl) (hO.sub (.cons _ (.cons _ (.cons_cons _ (.cons_cons _ (List.nil_sublist _)))))) ?_
          clear hF; intro a hF
          refine A_done (by kernel_rfl) ?_
          refine block_normal ?_
          refine hK7 _ _ ?_
          refine wp_region_lit ?_
          refine L_val hF (by kernel_rfl) (by kernel_rfl) (v := .int .i64 ((i : Int) + 1)) (x_int (x := IntKind.i64.wrap ((i : Int) + 1)) (i64In (by omega) (by omega)) (by kernel_rfl)) (by kernel_rfl) ?_
          clear hF; intro a hF
          refine L_val hF (by kernel_rfl) (by kernel_rfl) (v := .int .i64 ((i : Int) + 1)) (by kernel_rfl) (by kernel_rfl) ?_
          clear hF; intro a hF
          refine L_nil ?_
          refine hK_1 ((i + 1, p36, cap36, ((r.take at') ++ ([(nth l i)] : List Key)) ++ (r.drop at'))) _ _ (by first | omega | (dsimp only; omega)) ⟨(by have hps := posL_at hI2.1 hI2.2 (by first | exact .inl (by assumption) | exact .inr (by assumption)); first | exact sortRound0 hI (by omega) hps (by omega) (by assumption) | exact sortRound1 hI (by omega) hps (by first | exact .inl (by omega) | exact .inr (by assumption))), ?_, ?_⟩
          · exact hF.restrict ⟨(by kernel_rfl), (congrArg some (by first | rfl | exact congrArg (Value.int _) (by omega) | simp)), (by kernel_rfl), (by kernel_rfl), (congrArg some (by first | rfl | exact congrArg (Value.int _) (by omega) | simp)), trivial⟩
          · exact hO.sub (.cons_cons _ (List.nil_sublist _))
  ·
    replace hF := hF.know (d := 11) (v' := .bool false) (by kernel_rfl) (congrArg Value.bool (decide_eq_false q1))
    refine cond_f hF (by kernel_rfl) (by kernel_rfl) ?_
    refine wp_exit ?_
    refine then_exit ?_
    refine then_exit ?_
    refine inBlock_hit ?_
    refine hK3 _ _ ?_
    refine wp_seq_k fun K17 hK17 => ?_
    refine wp_region_lit ?_
    refine L_val hF (by kernel_rfl) (by kernel_rfl) (v := .slice q r.length qc) (by kernel_rfl) (by kernel_rfl) ?_
    clear hF; intro a hF
    refine L_val hF (by kernel_rfl) (by kernel_rfl) (v := .slice q r.length qc) (by kernel_rfl) (by kernel_rfl) ?_
    clear hF; intro a hF
    refine L_nil ?_
    refine hK17 _ _ ?_
    refine wp_ret ?_
    -- way 1: ¬ (i : Int) < (l.length : Int)
    refine ret1 hF (v := .slice q r.length qc) rfl (resT (by kernel_rfl)) (by have he := sortEnd hI (by omega); subst he; exact ⟨_, _, rfl, hO.sub (.cons_cons _ (List.nil_sublist _))⟩) .ret (.inl rfl)

set_option maxRecDepth 20000 in
theorem isNaN_str (s : ByteArray) (W : World) : Ret Tryd.prog 42 #[.string s] W fun v W' => v = .bool false ∧ Own W noD [] W' := by
  refine enter Tryd.func42 rfl (n := 6) rfl (by kernel_rfl) (E0 := [(0, .string s)]) (by kernel_rfl) ?_
  intro a hF; have hO := Own.start W noD
  refine wp_seq_k fun K1 hK1 => ?_
  refine wp_region_lit ?_
  refine L_val hF (by kernel_rfl) (by kernel_rfl) (v := .bool false) (by kernel_rfl) (by kernel_rfl) ?_
  clear hF; intro a hF
  refine L_nil ?_
  refine hK1 _ _ ?_
  refine wp_seq_k fun K2 hK2 => ?_
  refine wp_region_lit ?_
  refine L_val hF (by kernel_rfl) (by kernel_rfl) (v := .string s) (by kernel_rfl) (by kernel_rfl) ?_
  clear hF; intro a hF
  refine L_val hF (by kernel_rfl) (by kernel_rfl) (v := .string s) (by kernel_rfl) (by kernel_rfl) ?_
  clear hF; intro a hF
  refine L_val hF (by kernel_rfl) (by kernel_rfl) (v := .bool false) (x_bool (x := !(strEq s s)) (notF (strEq_refl _)) (by kernel_rfl)) (by kernel_rfl) ?_
  clear hF; intro a hF
  refine L_val hF (by kernel_rfl) (by kernel_rfl) (v := .bool false) (by kernel_rfl) (by kernel_rfl) ?_
  clear hF; intro a hF
  refine L_nil ?_
  refine hK2 _ _ ?_
  refine wp_ret ?_
  -- way 1: 
  refine ret1 hF (v := .bool false) rfl (resT (by kernel_rfl)) (by refine ⟨?_, hO.nil⟩; first | rfl | (simp [*]; done)) .ret (.inl rfl)

set_option maxRecDepth 20000 in
theorem cmp_str (s t : ByteArray) (W : World) : Ret Tryd.prog 27 #[.string s, .string t] W fun v W' => v = .int .i64 (cmpS s t) ∧ Own W noD [] W' := by
  refine enter Tryd.func27 rfl (n := 20) rfl (by kernel_rfl) (E0 := [(1, .string t), (0, .string s)]) (by kernel_rfl) ?_
  intro a hF; have hO := Own.start W noD
  refine wp_seq_k fun K1 hK1 => ?_
  refine wp_region_lit ?_
  refine L_val hF (by kernel_rfl) (by kernel_rfl) (v := .int .i64 0) (by kernel_rfl) (by kernel_rfl) ?_
  clear hF; intro a hF
  refine L_nil ?_
  refine hK1 _ _ ?_
  refine wp_seq_k fun K2 hK2 => ?_
  refine wp_region_lit ?_
  refine L_val hF (by kernel_rfl) (by kernel_rfl) (v := .string s) (by kernel_rfl) (by kernel_rfl) ?_
  clear hF; intro a hF
  refine L_call hF (by kernel_rfl) (by kernel_rfl) (by kernel_rfl) (by kernel_rfl) (isNaN_str s W) ?_
  clear hF; rintro _ W1 a ⟨rfl, hk⟩ hF
  replace hO := hO.call0 hk; clear hk
  refine L_val hF (by kernel_rfl) (by kernel_rfl) (v := .bool false) (by kernel_rfl) (by kernel_rfl) ?_
  clear hF; intro a hF
  refine L_nil ?_
  refine hK2 _ _ ?_
  refine wp_seq_k fun K3 hK3 => ?_
  refine wp_region_lit ?_
  refine L_val hF (by kernel_rfl) (by kernel_rfl) (v := .string t) (by kernel_rfl) (by kernel_rfl) ?_
  clear hF; intro a hF
  refine L_call hF (by kernel_rfl) (by kernel_rfl) (by kernel_rfl) (by kernel_rfl) (isNaN_str t W1) ?_
  clear hF; rintro _ W2 a ⟨rfl, hk⟩ hF
  replace hO := hO.call0 hk; clear hk
  refine L_val hF (by kernel_rfl) (by kernel_rfl) (v := .bool false) (by kernel_rfl) (by kernel_rfl) ?_
  clear hF; intro a hF
  refine L_nil ?_
  refine hK3 _ _ ?_
  refine wp_seq_k fun K4 hK4 => ?_
  refine wp_seq_k fun K5 hK5 => ?_
  refine wp_region_lit ?_
  refine L_val hF (by kernel_rfl) (by kernel_rfl) (v := .bool false) (by kernel_rfl) (by kernel_rfl) ?_
  clear hF; intro a hF
  refine L_nil ?_
  refine hK5 _ _ ?_
  refine cond_f hF (by kernel_rfl) (by kernel_rfl) ?_
  refine wp_skip ?_
  refine hK4 _ _ ?_
  refine wp_seq_k fun K6 hK6 => ?_
  refine wp_seq_k fun K7 hK7 => ?_
  refine wp_region_lit ?_
  refine L_val hF (by kernel_rfl) (by kernel_rfl) (v := .bool false) (by kernel_rfl) (by kernel_rfl) ?_
  clear hF; intro a hF
  refine L_nil ?_
  refine hK7 _ _ ?_
  refine cond_f hF (by kernel_rfl) (by kernel_rfl) ?_
  refine wp_skip ?_
  refine hK6 _ _ ?_
  refine wp_seq_k fun K8 hK8 => ?_
  refine wp_seq_k fun K9 hK9 => ?_
  refine wp_region_lit ?_
  refine L_val hF (by kernel_rfl) (by kernel_rfl) (v := .string s) (by kernel_rfl) (by kernel_rfl) ?_
  clear hF; intro a hF
  refine L_val hF (by kernel_rfl) (by kernel_rfl) (v := .string t) (by kernel_rfl) (by kernel_rfl) ?_
  clear hF; intro a hF
  refine L_val hF (by kernel_rfl) (by kernel_rfl) (v := .bool (strLt s t)) (by kernel_rfl) (by kernel_rfl) ?_
  clear hF; intro a hF
  refine L_nil ?_
  refine hK9 _ _ ?_
  cases q1 : (strLt s t : Bool)
  ·
    replace hF := hF.know (d := 16) (v' := .bool false) (by kernel_rfl) (congrArg Value.bool q1)
    refine cond_f hF (by kernel_rfl) (by kernel_rfl) ?_
    refine wp_skip ?_
    refine hK8 _ _ ?_
    refine wp_seq_k fun K10 hK10 => ?_
    refine wp_seq_k fun K11 hK11 => ?_
    refine wp_region_lit ?_
    refine L_val hF (by kernel_rfl) (by kernel_rfl) (v := .string s) (by kernel_rfl) (by kernel_rfl) ?_
    clear hF; intro a hF
    refine L_val hF (by kernel_rfl) (by kernel_rfl) (v := .string t) (by kernel_rfl) (by kernel_rfl) ?_
    clear hF; intro a hF
    refine L_val hF (by kernel_rfl) (by kernel_rfl) (v := .bool (!(strLt s t || strEq s t))) (by kernel_rfl) (by kernel_rfl) ?_
    clear hF; intro a hF
    refine L_nil ?_
    refine hK11 _ _ ?_
    cases q2 : (!(strLt s t || strEq s t) : Bool)
    ·
      replace hF := hF.know (d := 19) (v' := .bool false) (by kernel_rfl) (congrArg Value.bool q2)
      refine cond_f hF (by kernel_rfl) (by kernel_rfl) ?_
      refine wp_skip ?_
      refine hK10 _ _ ?_
      refine wp_seq_k fun K12 hK12 => ?_
      refine wp_region_lit ?_
      refine L_val hF (by kernel_rfl) (by kernel_rfl) (v := .int .i64 0) (by kernel_rfl) (by kernel_rfl) ?_
      clear hF; intro a hF
      refine L_nil ?_
      refine hK12 _ _ ?_
      refine wp_ret ?_
      -- way 1: ¬ strLt s t; ¬ !(strLt s t || strEq s t)
      refine ret1 hF (v := .int .i64 0) rfl (resT (by kernel_rfl)) (by refine ⟨?_, hO.nil⟩; have hg := cmpS_gt s t; unfold cmpS; rw [← hg]; clear hg; simp_all) .ret (.inl rfl)
    ·
      replace hF := hF.know (d := 19) (v' := .bool true) (by kernel_rfl) (congrArg Value.bool q2)
      refine cond_t hF (by kernel_rfl) (by kernel_rfl) ?_
      refine wp_seq_k fun K13 hK13 => ?_
      refine wp_region_lit ?_
      refine L_val hF (by kernel_rfl) (by kernel_rfl) (v := .int .i64 1) (by kernel_rfl) (by kernel_rfl) ?_
      clear hF; intro a hF
      refine L_nil ?_
      refine hK13 _ _ ?_
      refine wp_ret ?_
      refine then_ret ?_
      -- way 2: ¬ strLt s t; !(strLt s t || strEq s t)
      refine ret1 hF (v := .int .i64 1) rfl (resT (by kernel_rfl)) (by refine ⟨?_, hO.nil⟩; have hg := cmpS_gt s t; unfold cmpS; rw [← hg]; clear hg; simp_all) .ret (.inl rfl)
  ·
    replace hF := hF.know (d := 16) (v' := .bool true) (by kernel_rfl) (congrArg Value.bool q1)
    refine cond_t hF (by kernel_rfl) (by kernel_rfl) ?_
    refine wp_seq_k fun K14 hK14 => ?_
    refine wp_region_lit ?_
    refine L_val hF (by kernel_rfl) (by kernel_rfl) (v := .int .i64 (-1)) (by kernel_rfl) (by kernel_rfl) ?_
    clear hF; intro a hF
    refine L_nil ?_
    refine hK14 _ _ ?_
    refine wp_ret ?_
    refine then_ret ?_
    -- way 3: strLt s t
    refine ret1 hF (v := .int .i64 (-1)) rfl (resT (by kernel_rfl)) (by refine ⟨?_, hO.nil⟩; have hg := cmpS_gt s t; unfold cmpS; rw [← hg]; clear hg; simp_all) .ret (.inl rfl)

set_option maxRecDepth 20000 in
theorem cmp_or (p : Option Addr) (cap : Nat) (l : List Int) (W : World) (hl : SlAt W p (l.flatMap i64L)) (hn : l.length ≤ 1000000) : Ret Tryd.prog 26 #[.slice p l.length cap] W fun v W' => v = .int .i64 (orL l) ∧ Own W noD [] W' := by
  refine enter Tryd.func26 rfl (n := 18) rfl (by kernel_rfl) (E0 := [(0, .slice p l.length cap)]) (by kernel_rfl) ?_
  intro a hF; have hO := Own.start W noD
  refine wp_seq_k fun K1 hK1 => ?_
  refine wp_region_lit ?_
  refine L_val hF (by kernel_rfl) (by kernel_rfl) (v := .int .i64 0) (by kernel_rfl) (by kernel_rfl) ?_
  clear hF; intro a hF
  refine L_nil ?_
  refine hK1 _ _ ?_
  refine wp_seq_k fun K2 hK2 => ?_
  refine wp_region_lit ?_
  refine L_val hF (by kernel_rfl) (by kernel_rfl) (v := .int .i64 0) (by kernel_rfl) (by kernel_rfl) ?_
  clear hF; intro a hF
  refine L_nil ?_
  refine hK2 _ _ ?_
  refine wp_seq_k fun K3 hK3 => ?_
  refine wp_seq_k fun K4 hK4 => ?_
  refine wp_region_lit ?_
  refine L_val hF (by kernel_rfl) (by kernel_rfl) (v := .slice p l.length cap) (by kernel_rfl) (by kernel_rfl) ?_
  clear hF; intro a hF
  refine L_val hF (by kernel_rfl) (by kernel_rfl) (v := .int .i64 ((l.length : Int))) (by kernel_rfl) (by kernel_rfl) ?_
  clear hF; intro a hF
  refine L_val hF (by kernel_rfl) (by kernel_rfl) (v := .int .i64 0) (by kernel_rfl) (by kernel_rfl) ?_
  clear hF; intro a hF
  refine L_nil ?_
  refine hK4 _ _ ?_
  refine wp_block ?_
  refine loopX (τ := Nat) (fun (i : Nat) a Wx => (i ≤ l.length ∧ ∀ j, j < i → nth l j = 0) ∧ Fr 18 a [(3, .int .i64 0), (6, .slice p l.length cap), (7, .int .i64 ((l.length : Int))), (8, .int .i64 ((i : Int)))] ∧ Own W noD [] Wx) (fun (i : Nat) => l.length - i) (0) ⟨⟨Nat.zero_le _, fun j h => by omega⟩, ?_, ?_⟩ ?_
  · exact hF.restrict ⟨(by kernel_rfl), (by kernel_rfl), (by kernel_rfl), (congrArg some (by first | rfl | exact congrArg (Value.int _) (by omega) | simp)), trivial⟩
  · exact hO.sub (List.nil_sublist _)
  clear hF hO; rintro i a Wl1 ⟨hI, hF, hO⟩ KhK_1 hK_1
  try dsimp only at hI
  refine wp_seq_k fun K5 hK5 => ?_
  refine wp_region_lit ?_
  refine L_val hF (by kernel_rfl) (by kernel_rfl) (v := .bool (decide ((i : Int) < (l.length : Int)))) (by kernel_rfl) (by kernel_rfl) ?_
  clear hF; intro a hF
  refine L_nil ?_
  refine hK5 _ _ ?_
  refine wp_seq_k fun K6 hK6 => ?_
  by_cases q1 : (i : Int) < (l.length : Int)
  ·
    replace hF := hF.know (d := 9) (v' := .bool true) (by kernel_rfl) (congrArg Value.bool (decide_eq_true q1))
    refine cond_t hF (by kernel_rfl) (by kernel_rfl) ?_
    refine wp_skip ?_
    refine hK6 _ _ ?_
    refine wp_seq_k fun K7 hK7 => ?_
    refine wp_block ?_
    refine wp_seq_k fun K8 hK8 => ?_
    refine wp_region_lit ?_
    refine L_val hF (by kernel_rfl) (by kernel_rfl) (v := .pointer (some ⟨(ab p), ao p + i * 1, none⟩)) (x_idxAddrS (p := p) (len := l.length) (cap := cap) (elem := 3) (kd := .i64) (k := 1) (i := (i : Int)) rfl (by kernel_rfl) (by kernel_rfl) (by kernel_rfl) (by kernel_rfl) (by omega) (by omega) (SlAt.ne (k := 1) (hl.own hO) (fun _ => rfl) (by decide) (by (first | omega | (simp only [List.length_set, List.length_take, List.length_drop, List.length_append, List.length_cons, List.length_nil]; done) | (simp only [List.length_set, List.length_take, List.length_drop, List.length_append, List.length_cons, List.length_nil]; omega) | (simp only [List.length_set, List.length_take, List.length_drop, List.length_append, List.length_cons, List.length_nil] at *; omega)) : i < l.length))) (by kernel_rfl) ?_
    clear hF; intro a hF
    refine L_val hF (by kernel_rfl) (by kernel_rfl) (v := .int .i64 ((nth l i))) (x_load (p := .pointer (some ⟨(ab p), ao p + i * 1, none⟩)) rfl (by kernel_rfl) (run_loadEl1 (by kernel_rfl) (hl.own hO) (fun _ => rfl) (by (first | omega | (simp only [List.length_set, List.length_take, List.length_drop, List.length_append, List.length_cons, List.length_nil]; done) | (simp only [List.length_set, List.length_take, List.length_drop, List.length_append, List.length_cons, List.length_nil]; omega) | (simp only [List.length_set, List.length_take, List.length_drop, List.length_append, List.length_cons, List.length_nil] at *; omega))) rfl)) (by kernel_rfl) ?_
    clear hF; intro a hF
    refine L_val hF (by kernel_rfl) (by kernel_rfl) (v := .int .i64 ((nth l i))) (by kernel_rfl) (by kernel_rfl) ?_
    clear hF; intro a hF
    refine L_nil ?_
    refine hK8 _ _ ?_
    refine wp_seq_k fun K9 hK9 => ?_
    refine wp_region_lit ?_
    refine L_val hF (by kernel_rfl) (by kernel_rfl) (v := .int .i64 ((nth l i))) (by kernel_rfl) (by kernel_rfl) ?_
    clear hF; intro a hF
    refine L_val hF (by kernel_rfl) (by kernel_rfl) (v := .int .i64 0) (by kernel_rfl) (by kernel_rfl) ?_
    clear hF; intro a hF
    refine L_val hF (by kernel_rfl) (by kernel_rfl) (v := .bool (!((nth l i) == 0))) (by kernel_rfl) (by kernel_rfl) ?_
    clear hF; intro a hF
    refine L_nil ?_
    refine hK9 _ _ ?_
    by_cases q2 : ¬ (nth l i) = 0
    ·
      replace hF := hF.know (d := 14) (v' := .bool true) (by kernel_rfl) (congrArg Value.bool (neT q2))
      refine cond_t hF (by kernel_rfl) (by kernel_rfl) ?_
      refine wp_seq_k fun K10 hK10 => ?_
      refine wp_region_lit ?_
      refine L_val hF (by kernel_rfl) (by kernel_rfl) (v := .int .i64 ((nth l i))) (by kernel_rfl) (by kernel_rfl) ?_
      clear hF; intro a hF
      refine L_val hF (by kernel_rfl) (by kernel_rfl) (v := .int .i64 ((nth l i))) (by kernel_rfl) (by kernel_rfl) ?_
      clear hF; intro a hF
      refine L_nil ?_
      refine hK10 _ _ ?_
      refine wp_ret ?_
      refine block_ret ?_
      refine then_ret ?_
      refine then_ret ?_
      refine block_ret ?_
      refine then_ret ?_
      -- way 1: (i : Int) < (l.length : Int); ¬ (nth l i) = 0
      refine ret1 hF (v := .int .i64 ((nth l i))) rfl (resT (by kernel_rfl)) (by refine ⟨?_, hO.nil⟩; first | rw [orL_take hI.2 (by omega) (by assumption)] | rw [orL_none (fun j hj => hI.2 j (by omega))]) .ret (.inl rfl)
    ·
      replace hF := hF.know (d := 14) (v' := .bool false) (by kernel_rfl) (congrArg Value.bool (neF q2))
      refine cond_f hF (by kernel_rfl) (by kernel_rfl) ?_
      refine wp_skip ?_
      refine block_normal ?_
      refine hK7 _ _ ?_
      refine wp_region_lit ?_
      refine L_val hF (by kernel_rfl) (by kernel_rfl) (v := .int .i64 ((i : Int) + 1)) (x_int (x := IntKind.i64.wrap ((i : Int) + 1)) (i64In (by omega) (by omega)) (by kernel_rfl)) (by kernel_rfl) ?_
      clear hF; intro a hF
      refine L_val hF (by kernel_rfl) (by kernel_rfl) (v := .int .i64 ((i : Int) + 1)) (by kernel_rfl) (by kernel_rfl) ?_
      clear hF; intro a hF
      refine L_nil ?_
      refine hK_1 (i + 1) _ _ (by first | omega | (dsimp only; omega)) ⟨⟨by omega, orRound hI.2 (Decidable.of_not_not (by assumption))⟩, ?_, ?_⟩
      · exact hF.restrict ⟨(by kernel_rfl), (by kernel_rfl), (by kernel_rfl), (congrArg some (by first | rfl | exact congrArg (Value.int _) (by omega) | simp)), trivial⟩
      · exact hO.sub (List.nil_sublist _)
  ·
    replace hF := hF.know (d := 9) (v' := .bool false) (by kernel_rfl) (congrArg Value.bool (decide_eq_false q1))
    refine cond_f hF (by kernel_rfl) (by kernel_rfl) ?_
    refine wp_exit ?_
    refine then_exit ?_
    refine then_exit ?_
    refine inBlock_hit ?_
    refine hK3 _ _ ?_
    refine wp_seq_k fun K11 hK11 => ?_
    refine wp_region_lit ?_
    refine L_val hF (by kernel_rfl) (by kernel_rfl) (v := .int .i64 0) (by kernel_rfl) (by kernel_rfl) ?_
    clear hF; intro a hF
    refine L_val hF (by kernel_rfl) (by kernel_rfl) (v := .int .i64 0) (by kernel_rfl) (by kernel_rfl) ?_
    clear hF; intro a hF
    refine L_nil ?_
    refine hK11 _ _ ?_
    refine wp_ret ?_
    -- way 2: ¬ (i : Int) < (l.length : Int)
    refine ret1 hF (v := .int .i64 0) rfl (resT (by kernel_rfl)) (by refine ⟨?_, hO.nil⟩; first | rw [orL_take hI.2 (by omega) (by assumption)] | rw [orL_none (fun j hj => hI.2 j (by omega))]) .ret (.inl rfl)

set_option maxRecDepth 20000 in
theorem names_Compare (k k2 : Key) (W : World) : Ret Tryd.prog 16 #[keyV k, keyV k2] W fun v W' => v = .int .i64 (cmpK k k2) ∧ Own W noD [] W' := by
  refine enter Tryd.func16 rfl (n := 17) rfl (by kernel_rfl) (E0 := [(1, keyV k2), (0, keyV k)]) (by kernel_rfl) ?_
  intro a hF; have hO := Own.start W noD
  refine wp_seq_k fun K1 hK1 => ?_
  refine wp_region_lit ?_
  refine L_new hF hO (by kernel_rfl) (by kernel_rfl) (vf := fun b => .pointer (some ⟨b, 0, none⟩)) (ob := .cells #[.string k.space, .string k.name] 23) (by kernel_rfl) (by kernel_rfl) ?_
  clear hF hO; intro b1 W1 a hO hF
  refine L_new hF hO (by kernel_rfl) (by kernel_rfl) (vf := fun b => .pointer (some ⟨b, 0, none⟩)) (ob := .cells #[.string k2.space, .string k2.name] 23) (by kernel_rfl) (by kernel_rfl) ?_
  clear hF hO; intro b2 W2 a hO hF
  refine L_val hF (by kernel_rfl) (by kernel_rfl) (v := .int .i64 0) (by kernel_rfl) (by kernel_rfl) ?_
  clear hF; intro a hF
  refine L_nil ?_
  refine hK1 _ _ ?_
  refine wp_seq_k fun K2 hK2 => ?_
  refine A_start (fun Wx => Own W noD [.blk b2 (.cells #[.string k2.space, .string k2.name] 23 (0, 0)), .blk b1 (.cells #[.string k.space, .string k.name] 23 (0, 0))] Wx) (by kernel_rfl) ?_
  replace hO := hO.drewN 1
  generalize hWd : ({ W2 with drawn := W2.drawn + 1 } : World) = W2_d at hO ⊢; clear hWd
  refine A_take (i := 0) (listed' := #[true, false, false, false, false, false, false, false, false, false, false, false, false]) rfl (by kernel_rfl) (by kernel_rfl) (by kernel_rfl) (by kernel_rfl) hF (by kernel_rfl) (by kernel_rfl) (v := .pointer (some ⟨b1, 0, none⟩)) (fun Wx _ => by kernel_rfl) (by kernel_rfl) (hO.sub (.cons_cons _ (.cons_cons _ (List.nil_sublist _)))) ?_
  clear hF; intro a hF
  refine A_take (i := 1) (listed' := #[true, true, false, false, false, false, false, false, false, false, false, false, false]) rfl (by kernel_rfl) (by kernel_rfl) (by kernel_rfl) (by kernel_rfl) hF (by kernel_rfl) (by kernel_rfl) (v := .string k.space) (fun Wx hO => x_load (p := .pointer (some ⟨b1, 0, none⟩)) rfl (by kernel_rfl) (run_load1 (by kernel_rfl) ((hO.cell (List.mem_cons_of_mem _ List.mem_cons_self)).trans (by kernel_rfl)))) (by kernel_rfl) (hO.sub (.cons_cons _ (.cons_cons _ (List.nil_sublist _)))) ?_
  clear hF; intro a hF
  refine A_take (i := 2) (listed' := #[true, true, true, false, false, false, false, false, false, false, false, false, false]) rfl (by kernel_rfl) (by kernel_rfl) (by kernel_rfl) (by kernel_rfl) hF (by kernel_rfl) (by kernel_rfl) (v := .pointer (some ⟨b2, 0, none⟩)) (fun Wx _ => by kernel_rfl) (by kernel_rfl) (hO.sub (.cons_cons _ (.cons_cons _ (List.nil_sublist _)))) ?_
  clear hF; intro a hF
  refine A_take (i := 3) (listed' := #[true, true, true, true, false, false, false, false, false, false, false, false, false]) rfl (by kernel_rfl) (by kernel_rfl) (by kernel_rfl) (by kernel_rfl) hF (by kernel_rfl) (by kernel_rfl) (v := .string k2.space) (fun Wx hO => x_load (p := .pointer (some ⟨b2, 0, none⟩)) rfl (by kernel_rfl) (run_load1 (by kernel_rfl) ((hO.cell List.mem_cons_self).trans (by kernel_rfl)))) (by kernel_rfl) (hO.sub (.cons_cons _ (.cons_cons _ (List.nil_sublist _)))) ?_
  clear hF; intro a hF
  refine A_take (i := 5) (listed' := #[true, true, true, true, false, true, false, false, false, false, false, false, false]) rfl (by kernel_rfl) (by kernel_rfl) (by kernel_rfl) (by kernel_rfl) hF (by kernel_rfl) (by kernel_rfl) (v := .pointer (some ⟨b1, 1, none⟩)) (fun Wx _ => by kernel_rfl) (by kernel_rfl) (hO.sub (.cons_cons _ (.cons_cons _ (List.nil_sublist _)))) ?_
  clear hF; intro a hF
  refine A_take (i := 6) (listed' := #[true, true, true, true, false, true, true, false, false, false, false, false, false]) rfl (by kernel_rfl) (by kernel_rfl) (by kernel_rfl) (by kernel_rfl) hF (by kernel_rfl) (by kernel_rfl) (v := .string k.name) (fun Wx hO => x_load (p := .pointer (some ⟨b1, 1, none⟩)) rfl (by kernel_rfl) (run_load1 (by kernel_rfl) ((hO.cell (List.mem_cons_of_mem _ List.mem_cons_self)).trans (by kernel_rfl)))) (by kernel_rfl) (hO.sub (.cons_cons _ (.cons_cons _ (List.nil_sublist _)))) ?_
  clear hF; intro a hF
  refine A_take (i := 7) (listed' := #[true, true, true, true, false, true, true, true, false, false, false, false, false]) rfl (by kernel_rfl) (by kernel_rfl) (by kernel_rfl) (by kernel_rfl) hF (by kernel_rfl) (by kernel_rfl) (v := .pointer (some ⟨b2, 1, none⟩)) (fun Wx _ => by kernel_rfl) (by kernel_rfl) (hO.sub (.cons_cons _ (.cons_cons _ (List.nil_sublist _)))) ?_
  clear hF; intro a hF
  refine A_take (i := 8) (listed' := #[true, true, true, true, false, true, true, true, true, false, false, false, false]) rfl (by kernel_rfl) (by kernel_rfl) (by kernel_rfl) (by kernel_rfl) hF (by kernel_rfl) (by kernel_rfl) (v := .string k2.name) (fun Wx hO => x_load (p := .pointer (some ⟨b2, 1, none⟩)) rfl (by kernel_rfl) (run_load1 (by kernel_rfl) ((hO.cell List.mem_cons_self).trans (by kernel_rfl)))) (by kernel_rfl) (hO.sub (.cons_cons _ (.cons_cons _ (List.nil_sublist _)))) ?_
  clear hF; intro a hF
  refine A_one (i := 4) (listed' := #[true, true, true, true, true, true, true, true, true, false, false, false, false]) (by kernel_rfl) rfl (by kernel_rfl) ?_
  refine OpK.call hF (by kernel_rfl) (by kernel_rfl) (by kernel_rfl) (by kernel_rfl) (cmp_str k.space k2.space W2_d) ?_
  clear hF; rintro _ W3 a ⟨rfl, hk⟩ hF
  replace hO := hO.call0 hk; clear hk
  refine ⟨hO.sub (.cons_cons _ (.cons_cons _ (List.nil_sublist _))), ?_⟩
  refine A_one (i := 9) (listed' := #[true, true, true, true, true, true, true, true, true, true, false, false, false]) (by kernel_rfl) rfl (by kernel_rfl) ?_
  refine OpK.call hF (by kernel_rfl) (by kernel_rfl) (by kernel_rfl) (by kernel_rfl) (cmp_str k.name k2.name W3) ?_
  clear hF; rintro _ W4 a ⟨rfl, hk⟩ hF
  replace hO := hO.call0 hk; clear hk
  refine ⟨hO.sub (.cons_cons _ (.cons_cons _ (List.nil_sublist _))), ?_⟩
  refine A_one (i := 10) (listed' := #[true, true, true, true, true, true, true, true, true, true, true, false, false]) (by kernel_rfl) rfl (by kernel_rfl) ?_
  refine OpK.new hF hO (by kernel_rfl) (by kernel_rfl) (vf := fun b => .slice (some ⟨b, 0, none⟩) 2 2) (ob := .cells #[.int .i64 ((cmpS k.space k2.space)), .int .i64 ((cmpS k.name k2.name))] 3) (by kernel_rfl) (by kernel_rfl) ?_
  clear hF hO; intro b3 W5 a hO hF
  refine ⟨hO.sub (.cons _ (.cons_cons _ (.cons_cons _ (List.nil_sublist _)))), ?_⟩
  refine A_one (i := 11) (listed' := #[true, true, true, true, true, true, true, true, true, true, true, true, false]) (by kernel_rfl) rfl (by kernel_rfl) ?_
  refine OpK.call hF (by kernel_rfl) (by kernel_rfl) (by kernel_rfl) (by kernel_rfl) (cmp_or (some ⟨b3, 0, none⟩) 2 ([(cmpS k.space k2.space), (cmpS k.name k2.name)] : List Int) W5 (SlAt.blk hO List.mem_cons_self (by kernel_rfl)) (by simp)) ?_
  clear hF; rintro _ W6 a ⟨rfl, hk⟩ hF
  replace hO := hO.call0 hk; clear hk
  refine ⟨hO.sub (.cons _ (.cons_cons _ (.cons_cons _ (List.nil_sublist _)))), ?_⟩
  refine A_take (i := 12) (listed' := #[true, true, true, true, true, true, true, true, true, true, true, true, true]) rfl (by kernel_rfl) (by kernel_rfl) (by kernel_rfl) (by kernel_rfl) hF (by kernel_rfl) (by kernel_rfl) (v := .int .i64 ((orL ([(cmpS k.space k2.space), (cmpS k.name k2.name)] : List Int)))) (fun Wx _ => by kernel_rfl) (by kernel_rfl) (hO.sub (.cons _ (.cons_cons _ (.cons_cons _ (List.nil_sublist _))))) ?_
  clear hF; intro a hF
  refine A_done (by kernel_rfl) ?_
  refine hK2 _ _ ?_
  refine wp_ret ?_
  -- way 1: 
  refine ret1 hF (v := .int .i64 ((orL ([(cmpS k.space k2.space), (cmpS k.name k2.name)] : List Int)))) rfl (resT (by kernel_rfl)) (by refine ⟨?_, hO.nil⟩; exact congrArg (Value.int .i64) (cmpK_or k k2)) .ret (.inl rfl)

set_option maxRecDepth 20000 in
theorem clone_Key_nil (cap : Nat) (W : World) : Ret Tryd.prog 23 #[.slice none 0 cap] W fun v W' => v = .slice none 0 0 ∧ Own W noX [] W' := by
  refine enter Tryd.func23 rfl (n := 8) rfl (by kernel_rfl) (E0 := [(0, .slice none 0 cap)]) (by kernel_rfl) ?_
  intro a hF; have hO := Own.start W noX
  refine wp_seq_k fun K1 hK1 => ?_
  refine wp_region_lit ?_
  refine L_val hF (by kernel_rfl) (by kernel_rfl) (v := .slice none 0 0) (by kernel_rfl) (by kernel_rfl) ?_
  clear hF; intro a hF
  refine L_nil ?_
  refine hK1 _ _ ?_
  refine wp_seq_k fun K2 hK2 => ?_
  refine wp_seq_k fun K3 hK3 => ?_
  refine wp_region_lit ?_
  refine L_val hF (by kernel_rfl) (by kernel_rfl) (v := .slice none 0 cap) (by kernel_rfl) (by kernel_rfl) ?_
  clear hF; intro a hF
  refine L_val hF (by kernel_rfl) (by kernel_rfl) (v := .bool true) (by kernel_rfl) (by kernel_rfl) ?_
  clear hF; intro a hF
  refine L_nil ?_
  refine hK3 _ _ ?_
  refine cond_t hF (by kernel_rfl) (by kernel_rfl) ?_
  refine wp_seq_k fun K4 hK4 => ?_
  refine wp_region_lit ?_
  refine L_val hF (by kernel_rfl) (by kernel_rfl) (v := .slice none 0 0) (by kernel_rfl) (by kernel_rfl) ?_
  clear hF; intro a hF
  refine L_nil ?_
  refine hK4 _ _ ?_
  refine wp_ret ?_
  refine then_ret ?_
  -- way 1: 
  refine ret1 hF (v := .slice none 0 0) rfl (resT (by kernel_rfl)) (by refine ⟨?_, hO.nil⟩; first | rfl | (simp [*]; done)) .ret (.inl rfl)

set_option maxRecDepth 20000 in
theorem clone_Key_some (pa : Addr) (cap : Nat) (l : List Key) (W : World) (hl : SlAt W (some pa) (l.flatMap keyL)) (hn : l.length ≤ 1000000) : Ret Tryd.prog 23 #[.slice (some pa) l.length cap] W fun v W' => ∃ q qc, v = .slice q l.length qc ∧ Own W noX [rowL keyL 2 23 q qc l] W' := by
  refine enter Tryd.func23 rfl (n := 8) rfl (by kernel_rfl) (E0 := [(0, .slice (some pa) l.length cap)]) (by kernel_rfl) ?_
  intro a hF; have hO := Own.start W noX
  refine wp_seq_k fun K1 hK1 => ?_
  refine wp_region_lit ?_
  refine L_val hF (by kernel_rfl) (by kernel_rfl) (v := .slice none 0 0) (by kernel_rfl) (by kernel_rfl) ?_
  clear hF; intro a hF
  refine L_nil ?_
  refine hK1 _ _ ?_
  refine wp_seq_k fun K2 hK2 => ?_
  refine wp_seq_k fun K3 hK3 => ?_
  refine wp_region_lit ?_
  refine L_val hF (by kernel_rfl) (by kernel_rfl) (v := .slice (some pa) l.length cap) (by kernel_rfl) (by kernel_rfl) ?_
  clear hF; intro a hF
  refine L_val hF (by kernel_rfl) (by kernel_rfl) (v := .bool false) (by kernel_rfl) (by kernel_rfl) ?_
  clear hF; intro a hF
  refine L_nil ?_
  refine hK3 _ _ ?_
  refine cond_f hF (by kernel_rfl) (by kernel_rfl) ?_
  refine wp_skip ?_
  refine hK2 _ _ ?_
  refine wp_seq_k fun K4 hK4 => ?_
  refine wp_region_lit ?_
  refine L_new hF hO (by kernel_rfl) (by kernel_rfl) (vf := fun b => .slice (some ⟨b, 0, none⟩) 0 0) (ob := .cells #[] 23) (by kernel_rfl) (by kernel_rfl) ?_
  clear hF hO; intro b1 W1 a hO hF
  refine L_val hF (by kernel_rfl) (by kernel_rfl) (v := .slice (some pa) l.length cap) (by kernel_rfl) (by kernel_rfl) ?_
  clear hF; intro a hF
  replace hO := hO.asRow (k := 2) (cap := 0) keyL ([] : List Key) (.head _) (by decide) (by kernel_rfl) (by decide) (by kernel_rfl)
  obtain ⟨p1, cap1, W2, hap, hO1, -⟩ := run_append_row (P := Tryd.prog) (ty := 36) (t := 36) (z := .agg #[.string (⟨#[]⟩ : ByteArray), .string (⟨#[]⟩ : ByteArray)]) (k := 2) (bytes := 32) (q := some pa) (ys := l) (cq := cap) hO (.head _) (by kernel_rfl) (by kernel_rfl) (by kernel_rfl) (by decide) (fun _ => rfl) (fun _ => rfl) (hl.own hO) (by (try simp only [List.length_append, List.length_take, List.length_drop, List.length_cons, List.length_nil, maxLen]); omega) (by (try simp only [List.length_append, List.length_take, List.length_drop, List.length_cons, List.length_nil, maxLen]); omega)
  refine L_valW hF (by kernel_rfl) (by kernel_rfl) (x_app hap rfl (by kernel_rfl) (by kernel_rfl) rfl) (by kernel_rfl) ?_
  clear hap hF; intro a hF; replace hO := hO1; clear hO1
  refine L_val hF (by kernel_rfl) (by kernel_rfl) (v := .slice p1 l.length cap1) (by kernel_rfl) (by kernel_rfl) ?_
  clear hF; intro a hF
  refine L_nil ?_
  refine hK4 _ _ ?_
  refine wp_ret ?_
  -- way 1: 
  refine ret1 hF (v := .slice p1 l.length cap1) rfl (resT (by kernel_rfl)) (by exact ⟨_, _, rfl, hO.sub (.cons_cons _ (List.nil_sublist _))⟩) .ret (.inl rfl)

theorem clone_Key (p : Option Addr) (cap : Nat) (l : List Key) (W : World) (hl : SlAt W p (l.flatMap keyL)) (hn : l.length ≤ 1000000) : Ret Tryd.prog 23 #[.slice p l.length cap] W fun v W' => ∃ q qc, v = .slice q l.length qc ∧ Own W noX [rowL keyL 2 23 q qc l] W' := by
  cases p with
  | none =>
    cases l with
    | nil => exact (clone_Key_nil cap W).mono fun v W' h => ⟨none, 0, h.1, h.2.nilRow _ _ _⟩
    | cons a t => exact absurd (SlAt.ne (k := 2) (i := 0) hl (fun _ => rfl) (by decide) (by simp)) (by simp)
  | some pa => exact clone_Key_some pa cap l W hl hn

set_option maxRecDepth 20000 in
theorem compact_Key (p : Option Addr) (cap : Nat) (l : List Key) (W : World) (hr : (rowL keyL 2 23 p cap l).holds (heapF W)) (hn : l.length ≤ 1000000) : Ret Tryd.prog 25 #[.slice p l.length cap] W fun v W' => v = .slice p (compactL l).length cap ∧ Own W (rowX p) [rowL keyL 2 23 p cap (compactL l)] W' := by
  refine enter Tryd.func25 rfl (n := 61) rfl (by kernel_rfl) (E0 := [(0, .slice p l.length cap)]) (by kernel_rfl) ?_
  intro a hF; have hO := Own.startRow hr
  refine wp_seq_k fun K1 hK1 => ?_
  refine wp_region_lit ?_
  refine L_val hF (by kernel_rfl) (by kernel_rfl) (v := .slice none 0 0) (by kernel_rfl) (by kernel_rfl) ?_
  clear hF; intro a hF
  refine L_nil ?_
  refine hK1 _ _ ?_
  refine wp_seq_k fun K2 hK2 => ?_
  refine wp_seq_k fun K3 hK3 => ?_
  refine wp_region_lit ?_
  refine L_val hF (by kernel_rfl) (by kernel_rfl) (v := .slice p l.length cap) (by kernel_rfl) (by kernel_rfl) ?_
  clear hF; intro a hF
  refine L_val hF (by kernel_rfl) (by kernel_rfl) (v := .int .i64 ((l.length : Int))) (by kernel_rfl) (by kernel_rfl) ?_
  clear hF; intro a hF
  refine L_val hF (by kernel_rfl) (by kernel_rfl) (v := .bool (decide ((l.length : Int) < 2))) (by kernel_rfl) (by kernel_rfl) ?_
  clear hF; intro a hF
  refine L_nil ?_
  refine hK3 _ _ ?_
  by_cases q1 : (l.length : Int) < 2
  ·
    replace hF := hF.know (d := 8) (v' := .bool true) (by kernel_rfl) (congrArg Value.bool (decide_eq_true q1))
    refine cond_t hF (by kernel_rfl) (by kernel_rfl) ?_
    refine wp_seq_k fun K4 hK4 => ?_
    refine wp_region_lit ?_
    refine L_val hF (by kernel_rfl) (by kernel_rfl) (v := .slice p l.length cap) (by kernel_rfl) (by kernel_rfl) ?_
    clear hF; intro a hF
    refine L_val hF (by kernel_rfl) (by kernel_rfl) (v := .slice p l.length cap) (by kernel_rfl) (by kernel_rfl) ?_
    clear hF; intro a hF
    refine L_nil ?_
    refine hK4 _ _ ?_
    refine wp_ret ?_
    refine then_ret ?_
    -- way 1: (l.length : Int) < 2
    refine ret1 hF (v := .slice p l.length cap) rfl (resT (by kernel_rfl)) (by have he := (by first | exact compact_one l (by omega) | exact compEnd hI (by assumption) : compactL l = l); exact ⟨by rw [he], by rw [he]; exact hO.sub (.cons_cons _ (List.nil_sublist _))⟩) .ret (.inl rfl)
  ·
    replace hF := hF.know (d := 8) (v' := .bool false) (by kernel_rfl) (congrArg Value.bool (decide_eq_false q1))
    refine cond_f hF (by kernel_rfl) (by kernel_rfl) ?_
    refine wp_skip ?_
    refine hK2 _ _ ?_
    refine wp_seq_k fun K5 hK5 => ?_
    refine wp_seq_k fun K6 hK6 => ?_
    refine wp_region_lit ?_
    refine L_val hF (by kernel_rfl) (by kernel_rfl) (v := .int .i64 1) (by kernel_rfl) (by kernel_rfl) ?_
    clear hF; intro a hF
    refine L_nil ?_
    refine hK6 _ _ ?_
    refine wp_block ?_
    refine loopX (τ := Nat) (fun (k : Nat) a Wx => (1 ≤ k ∧ k ≤ l.length ∧ ∀ j, 1 ≤ j → j < k → nth l j ≠ nth l (j - 1)) ∧ Fr 61 a [(0, .slice p l.length cap), (3, .int .i64 ((k : Int)))] ∧ Own W (rowX p) [rowL keyL 2 23 p cap l] Wx) (fun (k : Nat) => l.length - k) (1) ⟨⟨Nat.le_refl _, by omega, fun j h1 h2 => by omega⟩, ?_, ?_⟩ ?_
    · exact hF.restrict ⟨(by kernel_rfl), (congrArg some (by first | rfl | exact congrArg (Value.int _) (by omega) | simp)), trivial⟩
    · exact hO.sub (.cons_cons _ (List.nil_sublist _))
    clear hF hO; rintro k a Wl1 ⟨hI, hF, hO⟩ KhK_1 hK_1
    try dsimp only at hI
    refine wp_seq_k fun K7 hK7 => ?_
    refine wp_seq_k fun K8 hK8 => ?_
    refine wp_region_lit ?_
    refine L_val hF (by kernel_rfl) (by kernel_rfl) (v := .int .i64 ((k : Int))) (by kernel_rfl) (by kernel_rfl) ?_
    clear hF; intro a hF
    refine L_val hF (by kernel_rfl) (by kernel_rfl) (v := .slice p l.length cap) (by kernel_rfl) (by kernel_rfl) ?_
    clear hF; intro a hF
    refine L_val hF (by kernel_rfl) (by kernel_rfl) (v := .int .i64 ((l.length : Int))) (by kernel_rfl) (by kernel_rfl) ?_
    clear hF; intro a hF
    refine L_val hF (by kernel_rfl) (by kernel_rfl) (v := .bool (decide ((k : Int) < (l.length : Int)))) (by kernel_rfl) (by kernel_rfl) ?_
    clear hF; intro a hF
    refine L_nil ?_
    refine hK8 _ _ ?_
    by_cases q2 : (k : Int) < (l.length : Int)
    ·
      replace hF := hF.know (d := 13) (v' := .bool true) (by kernel_rfl) (congrArg Value.bool (decide_eq_true q2))
      refine cond_t hF (by kernel_rfl) (by kernel_rfl) ?_
      refine wp_skip ?_
      refine hK7 _ _ ?_
      refine wp_seq_k fun K9 hK9 => ?_
      refine wp_block ?_
      refine wp_seq_k fun K10 hK10 => ?_
      refine A_start (fun Wx => Own W (rowX p) [rowL keyL 2 23 p cap l] Wx) (by kernel_rfl) ?_
      replace hO := hO.drewN 1
      generalize hWd : ({ Wl1 with drawn := Wl1.drawn + 1 } : World) = Wl1_d at hO ⊢; clear hWd
      refine A_take (i := 0) (listed' := #[true, false, false, false, false, false, false, false, false, false]) rfl (by kernel_rfl) (by kernel_rfl) (by kernel_rfl) (by kernel_rfl) hF (by kernel_rfl) (by kernel_rfl) (v := .slice p l.length cap) (fun Wx _ => by kernel_rfl) (by kernel_rfl) (hO.sub (.cons_cons _ (List.nil_sublist _))) ?_
      clear hF; intro a hF
      refine A_take (i := 1) (listed' := #[true, true, false, false, false, false, false, false, false, false]) rfl (by kernel_rfl) (by kernel_rfl) (by kernel_rfl) (by kernel_rfl) hF (by kernel_rfl) (by kernel_rfl) (v := .int .i64 ((k : Int))) (fun Wx _ => by kernel_rfl) (by kernel_rfl) (hO.sub (.cons_cons _ (List.nil_sublist _))) ?_
      clear hF; intro a hF
      refine A_take (i := 2) (listed' := #[true, true, true, false, false, false, false, false, false, false]) rfl (by kernel_rfl) (by kernel_rfl) (by kernel_rfl) (by kernel_rfl) hF (by kernel_rfl) (by kernel_rfl) (v := .pointer (some ⟨(ab p), ao p + k * 2, none⟩)) (fun Wx _ => (x_idxAddrS (p := p) (len := l.length) (cap := cap) (elem := 23) (kd := .i64) (k := 2) (i := (k : Int)) rfl (by kernel_rfl) (by kernel_rfl) (by kernel_rfl) (by kernel_rfl) (by (first | omega | (simp only [List.length_set, List.length_take, List.length_drop, List.length_append, List.length_cons, List.length_nil]; done) | (simp only [List.length_set, List.length_take, List.length_drop, List.length_append, List.length_cons, List.length_nil]; omega) | (simp only [List.length_set, List.length_take, List.length_drop, List.length_append, List.length_cons, List.length_nil] at *; omega))) (by (first | omega | (simp only [List.length_set, List.length_take, List.length_drop, List.length_append, List.length_cons, List.length_nil]; done) | (simp only [List.length_set, List.length_take, List.length_drop, List.length_append, List.length_cons, List.length_nil]; omega) | (simp only [List.length_set, List.length_take, List.length_drop, List.length_append, List.length_cons, List.length_nil] at *; omega))) (SlAt.ne (k := 2) (hO.row List.mem_cons_self) (fun _ => rfl) (by decide) (by (first | omega | (simp only [List.length_set, List.length_take, List.length_drop, List.length_append, List.length_cons, List.length_nil]; done) | (simp only [List.length_set, List.length_take, List.length_drop, List.length_append, List.length_cons, List.length_nil]; omega) | (simp only [List.length_set, List.length_take, List.length_drop, List.length_append, List.length_cons, List.length_nil] at *; omega)) : k < l.length)))) (by kernel_rfl) (hO.sub (.cons_cons _ (List.nil_sublist _))) ?_
      clear hF; intro a hF
      refine A_take (i := 3) (listed' := #[true, true, true, true, false, false, false, false, false, false]) rfl (by kernel_rfl) (by kernel_rfl) (by kernel_rfl) (by kernel_rfl) hF (by kernel_rfl) (by kernel_rfl) (v := keyV (nth l k)) (fun Wx hO => x_load (p := .pointer (some ⟨(ab p), ao p + k * 2, none⟩)) rfl (by kernel_rfl) (run_loadEl (k := 2) (by kernel_rfl) (by kernel_rfl) (hO.row List.mem_cons_self) (fun _ => rfl) (by (first | omega | (simp only [List.length_set, List.length_take, List.length_drop, List.length_append, List.length_cons, List.length_nil]; done) | (simp only [List.length_set, List.length_take, List.length_drop, List.length_append, List.length_cons, List.length_nil]; omega) | (simp only [List.length_set, List.length_take, List.length_drop, List.length_append, List.length_cons, List.length_nil] at *; omega))) rfl)) (by kernel_rfl) (hO.sub (.cons_cons _ (List.nil_sublist _))) ?_
      clear hF; intro a hF
      refine A_take (i := 4) (listed' := #[true, true, true, true, true, false, false, false, false, false]) rfl (by kernel_rfl) (by kernel_rfl) (by kernel_rfl) (by kernel_rfl) hF (by kernel_rfl) (by kernel_rfl) (v := .slice p l.length cap) (fun Wx _ => by kernel_rfl) (by kernel_rfl) (hO.sub (.cons_cons _ (List.nil_sublist _))) ?_
      clear hF; intro a hF
      refine A_take (i := 5) (listed' := #[true, true, true, true, true, true, false, false, false, false]) rfl (by kernel_rfl) (by kernel_rfl) (by kernel_rfl) (by kernel_rfl) hF (by kernel_rfl) (by kernel_rfl) (v := .int .i64 ((k : Int))) (fun Wx _ => by kernel_rfl) (by kernel_rfl) (hO.sub (.cons_cons _ (List.nil_sublist _))) ?_
      clear hF; intro a hF
      refine A_take (i := 6) (listed' := #[true, true, true, true, true, true, true, false, false, false]) rfl (by kernel_rfl) (by kernel_rfl) (by kernel_rfl) (by kernel_rfl) hF (by kernel_rfl) (by kernel_rfl) (v := .int .i64 ((k : Int) - 1)) (fun Wx _ => (x_int (x := IntKind.i64.wrap ((k : Int) - 1)) (i64In (by (first | omega | (simp only [List.length_set, List.length_take, List.length_drop, List.length_append, List.length_cons, List.length_nil]; done) | (simp only [List.length_set, List.length_take, List.length_drop, List.length_append, List.length_cons, List.length_nil]; omega) | (simp only [List.length_set, List.length_take, List.length_drop, List.length_append, List.length_cons, List.length_nil] at *; omega))) (by (first | omega | (simp only [List.length_set, List.length_take, List.length_drop, List.length_append, List.length_cons, List.length_nil]; done) | (simp only [List.length_set, List.length_take, List.length_drop, List.length_append, List.length_cons, List.length_nil]; omega) | (simp only [List.length_set, List.length_take, List.length_drop, List.length_append, List.length_cons, List.length_nil] at *; omega)))) (by kernel_rfl))) (by kernel_rfl) (hO.sub (.cons_cons _ (List.nil_sublist _))) ?_
      clear hF; intro a hF
      refine A_take (i := 7) (listed' := #[true, true, true, true, true, true, true, true, false, false]) rfl (by kernel_rfl) (by kernel_rfl) (by kernel_rfl) (by kernel_rfl) hF (by kernel_rfl) (by kernel_rfl) (v := .pointer (some ⟨(ab p), ao p + (((k : Int) - 1).toNat) * 2, none⟩)) (fun Wx _ => (x_idxAddrS (p := p) (len := l.length) (cap := cap) (elem := 23) (kd := .i64) (k := 2) (i := (k : Int) - 1) rfl (by kernel_rfl) (by kernel_rfl) (by kernel_rfl) (by kernel_rfl) (by (first | omega | (simp only [List.length_set, List.length_take, List.length_drop, List.length_append, List.length_cons, List.length_nil]; done) | (simp only [List.length_set, List.length_take, List.length_drop, List.length_append, List.length_cons, List.length_nil]; omega) | (simp only [List.length_set, List.length_take, List.length_drop, List.length_append, List.length_cons, List.length_nil] at *; omega))) (by (first | omega | (simp only [List.length_set, List.length_take, List.length_drop, List.length_append, List.length_cons, List.length_nil]; done) | (simp only [List.length_set, List.length_take, List.length_drop, List.length_append, List.length_cons, List.length_nil]; omega) | (simp only [List.length_set, List.length_take, List.length_drop, List.length_append, List.length_cons, List.length_nil] at *; omega))) (SlAt.ne (k := 2) (hO.row List.mem_cons_self) (fun _ => rfl) (by decide) (by (first | omega | (simp only [List.length_set, List.length_take, List.length_drop, List.length_append, List.length_cons, List.length_nil]; done) | (simp only [List.length_set, List.length_take, List.length_drop, List.length_append, List.length_cons, List.length_nil]; omega) | (simp only [List.length_set, List.length_take, List.length_drop, List.length_append, List.length_cons, List.length_nil] at *; omega)) : ((k : Int) - 1).toNat < l.length)))) (by kernel_rfl) (hO.sub (.cons_cons _ (List.nil_sublist _))) ?_
      clear hF; intro a hF
      refine A_take (i := 8) (listed' := #[true, true, true, true, true, true, true, true, true, false]) rfl (by kernel_rfl) (by kernel_rfl) (by kernel_rfl) (by kernel_rfl) hF (by kernel_rfl) (by kernel_rfl) (v := keyV (nth l (((k : Int) - 1).toNat))) (fun Wx hO => x_load (p := .pointer (some ⟨(ab p), ao p + (((k : Int) - 1).toNat) * 2, none⟩)) rfl (by kernel_rfl) (run_loadEl (k := 2) (by kernel_rfl) (by kernel_rfl) (hO.row List.mem_cons_self) (fun _ => rfl) (by (first | omega | (simp only [List.length_set, List.length_take, List.length_drop, List.length_append, List.length_cons, List.length_nil]; done) | (simp only [List.length_set, List.length_take, List.length_drop, List.length_append, List.length_cons, List.length_nil]; omega) | (simp only [List.length_set, List.length_take, List.length_drop, List.length_append, List.length_cons, List.length_nil] at *; omega))) rfl)) (by kernel_rfl) (hO.sub (.cons_cons _ (List.nil_sublist _))) ?_
      clear hF; intro a hF
      refine A_take (i := 9) (listed' := #[true, true, true, true, true, true, true, true, true, true]) rfl (by kernel_rfl) (by kernel_rfl) (by kernel_rfl) (by kernel_rfl) hF (by kernel_rfl) (by kernel_rfl) (v := .bool (decide ((nth l k) = (nth l (((k : Int) - 1).toNat))))) (fun Wx _ => (x_eqKey (a := (nth l k)) (b := (nth l (((k : Int) - 1).toNat))) rfl (by kernel_rfl) (by kernel_rfl))) (by kernel_rfl) (hO.sub (.cons_cons _ (List.nil_sublist _))) ?_
      clear hF; intro a hF
      refine A_done (by kernel_rfl) ?_
      refine hK10 _ _ ?_
      by_cases q3 : (nth l k) = (nth l (((k : Int) - 1).toNat))
      ·
        replace hF := hF.know (d := 25) (v' := .bool true) (by kernel_rfl) (congrArg Value.bool (decide_eq_true q3))
        refine cond_t hF (by kernel_rfl) (by kernel_rfl) ?_
        refine wp_seq_k fun K11 hK11 => ?_
        refine wp_region_lit ?_
        refine L_val hF (by kernel_rfl) (by kernel_rfl) (v := .slice p l.length cap) (by kernel_rfl) (by kernel_rfl) ?_
        clear hF; intro a hF
        refine L_val hF (by kernel_rfl) (by kernel_rfl) (v := .int .i64 ((k : Int))) (by kernel_rfl) (by kernel_rfl) ?_
        clear hF; intro a hF
        refine L_val hF (by kernel_rfl) (by kernel_rfl) (v := .slice (subP p cap k 2) ((l.drop k).length) (cap - k)) (x_slSlL (p := p) (len := l.length) (cap := cap) (elem := 23) (k := 2) (lo := (k : Int)) (hi := (l.length : Int)) rfl (by kernel_rfl) (by kernel_rfl) (by kernel_rfl) ⟨.i64, (by kernel_rfl)⟩ rfl (by (first | omega | (simp only [List.length_set, List.length_take, List.length_drop, List.length_append, List.length_cons, List.length_nil]; done) | (simp only [List.length_set, List.length_take, List.length_drop, List.length_append, List.length_cons, List.length_nil]; omega) | (simp only [List.length_set, List.length_take, List.length_drop, List.length_append, List.length_cons, List.length_nil] at *; omega))) (by (first | omega | (simp only [List.length_set, List.length_take, List.length_drop, List.length_append, List.length_cons, List.length_nil]; done) | (simp only [List.length_set, List.length_take, List.length_drop, List.length_append, List.length_cons, List.length_nil]; omega) | (simp only [List.length_set, List.length_take, List.length_drop, List.length_append, List.length_cons, List.length_nil] at *; omega))) (by have := (hO.rowCap List.mem_cons_self); (first | omega | (simp only [List.length_set, List.length_take, List.length_drop, List.length_append, List.length_cons, List.length_nil]; done) | (simp only [List.length_set, List.length_take, List.length_drop, List.length_append, List.length_cons, List.length_nil]; omega) | (simp only [List.length_set, List.length_take, List.length_drop, List.length_append, List.length_cons, List.length_nil] at *; omega))) (by simp only [List.length_drop, List.length_take]; (first | omega | (simp only [List.length_set, List.length_take, List.length_drop, List.length_append, List.length_cons, List.length_nil]; done) | (simp only [List.length_set, List.length_take, List.length_drop, List.length_append, List.length_cons, List.length_nil]; omega) | (simp only [List.length_set, List.length_take, List.length_drop, List.length_append, List.length_cons, List.length_nil] at *; omega))) rfl) (by kernel_rfl) ?_
        clear hF; intro a hF
        refine L_val hF (by kernel_rfl) (by kernel_rfl) (v := .slice (subP p cap k 2) ((l.drop k).length) (cap - k)) (by kernel_rfl) (by kernel_rfl) ?_
        clear hF; intro a hF
        refine L_nil ?_
        refine hK11 _ _ ?_
        refine wp_seq_k fun K12 hK12 => ?_
        refine wp_seq_k fun K13 hK13 => ?_
        refine wp_region_lit ?_
        refine L_val hF (by kernel_rfl) (by kernel_rfl) (v := .int .i64 1) (by kernel_rfl) (by kernel_rfl) ?_
        clear hF; intro a hF
        refine L_nil ?_
        refine hK13 _ _ ?_
        refine wp_block ?_
        refine loopX (τ := Nat × Nat × List Key) (fun (x : Nat × Nat × List Key) a Wx => (fun (i : Nat) (m : Nat) (r : List Key) => (CInv l r k i m ∧ r.length = l.length ∧ 1 ≤ i ∧ k + i ≤ l.length ∧ 1 ≤ m ∧ m ≤ k + i - 1) ∧ Fr 61 a [(0, .slice p l.length cap), (3, .int .i64 ((m : Int))), (4, .slice (subP p cap k 2) ((l.drop k).length) (cap - k)), (5, .int .i64 ((i : Int))), (10, .int .i64 ((k : Int))), (11, .slice p l.length cap), (12, .int .i64 ((l.length : Int))), (13, .bool true), (16, .slice p l.length cap), (17, .int .i64 ((k : Int))), (18, .pointer (some ⟨(ab p), ao p + k * 2, none⟩)), (19, keyV (nth l k)), (20, .slice p l.length cap), (21, .int .i64 ((k : Int))), (22, .int .i64 ((k : Int) - 1)), (23, .pointer (some ⟨(ab p), ao p + (((k : Int) - 1).toNat) * 2, none⟩)), (24, keyV (nth l (((k : Int) - 1).toNat))), (25, .bool true), (26, .slice p l.length cap), (27, .int .i64 ((k : Int))), (28, .slice (subP p cap k 2) ((l.drop k).length) (cap - k))] ∧ Own W (rowX p) [rowL keyL 2 23 p cap r] Wx) (x.1) (x.2.1) (x.2.2)) (fun (x : Nat × Nat × List Key) => (fun (i : Nat) (m : Nat) (r : List Key) => l.length - (k + i)) (x.1) (x.2.1) (x.2.2)) ((1, k, l)) ⟨(by exact cinv0' hI (by assumption) (by assumption)), ?_, ?_⟩ ?_
        · exact hF.restrict ⟨(congrArg some (by first | rfl | exact congrArg (Value.int _) (by omega) | simp)), (congrArg some (by first | rfl | exact congrArg (Value.int _) (by omega) | simp)), (congrArg some (by first | rfl | exact congrArg (Value.int _) (by omega) | simp)), (congrArg some (by first | rfl | exact congrArg (Value.int _) (by omega) | simp)), (by kernel_rfl), (by kernel_rfl), (by kernel_rfl), (by kernel_rfl), (by kernel_rfl), (by kernel_rfl), (by kernel_rfl), (by kernel_rfl), (by kernel_rfl), (by kernel_rfl), (by kernel_rfl), (by kernel_rfl), (by kernel_rfl), (by kernel_rfl), (by kernel_rfl), (by kernel_rfl), (by kernel_rfl), trivial⟩
        · exact hO.sub (.cons_cons _ (List.nil_sublist _))
        clear hF hO; rintro ⟨i, m, r⟩ a Wl2 ⟨hI2, hF, hO⟩ KhK_2 hK_2
        try dsimp only at hI2
        refine wp_seq_k fun K14 hK14 => ?_
        refine wp_seq_k fun K15 hK15 => ?_
        refine wp_region_lit ?_
        refine L_val hF (by kernel_rfl) (by kernel_rfl) (v := .int .i64 ((i : Int))) (by kernel_rfl) (by kernel_rfl) ?_
        clear hF; intro a hF
        refine L_val hF (by kernel_rfl) (by kernel_rfl) (v := .slice (subP p cap k 2) ((l.drop k).length) (cap - k)) (by kernel_rfl) (by kernel_rfl) ?_
        clear hF; intro a hF
        refine L_val hF (by kernel_rfl) (by kernel_rfl) (v := .int .i64 (((l.drop k).length : Int))) (by kernel_rfl) (by kernel_rfl) ?_
        clear hF; intro a hF
        refine L_val hF (by kernel_rfl) (by kernel_rfl) (v := .bool (decide ((i : Int) < ((l.drop k).length : Int)))) (by kernel_rfl) (by kernel_rfl) ?_
        clear hF; intro a hF
        refine L_nil ?_
        refine hK15 _ _ ?_
        by_cases q4 : (i : Int) < ((l.drop k).length : Int)
        ·
          replace hF := hF.know (d := 32) (v' := .bool true) (by kernel_rfl) (congrArg Value.bool (decide_eq_true q4))
          refine cond_t hF (by kernel_rfl) (by kernel_rfl) ?_
          refine wp_skip ?_
          refine hK14 _ _ ?_
          refine wp_seq_k fun K16 hK16 => ?_
          refine wp_block ?_
          refine wp_seq_k fun K17 hK17 => ?_
          refine A_start (fun Wx => Own W (rowX p) [rowL keyL 2 23 p cap r] Wx) (by kernel_rfl) ?_
          replace hO := hO.drewN 1
          generalize hWd : ({ Wl2 with drawn := Wl2.drawn + 1 } : World) = Wl2_d at hO ⊢; clear hWd
          refine A_take (i := 0) (listed' := #[true, false, false, false, false, false, false, false, false, false]) rfl (by kernel_rfl) (by kernel_rfl) (by kernel_rfl) (by kernel_rfl) hF (by kernel_rfl) (by kernel_rfl) (v := .slice (subP p cap k 2) ((l.drop k).length) (cap - k)) (fun Wx _ => by kernel_rfl) (by kernel_rfl) (hO.sub (.cons_cons _ (List.nil_sublist _))) ?_
          clear hF; intro a hF
          refine A_take (i := 1) (listed' := #[true, true, false, false, false, false, false, false, false, false]) rfl (by kernel_rfl) (by kernel_rfl) (by kernel_rfl) (by kernel_rfl) hF (by kernel_rfl) (by kernel_rfl) (v := .int .i64 ((i : Int))) (fun Wx _ => by kernel_rfl) (by kernel_rfl) (hO.sub (.cons_cons _ (List.nil_sublist _))) ?_
          clear hF; intro a hF
          refine A_take (i := 2) (listed' := #[true, true, true, false, false, false, false, false, false, false]) rfl (by kernel_rfl) (by kernel_rfl) (by kernel_rfl) (by kernel_rfl) hF (by kernel_rfl) (by kernel_rfl) (v := .pointer (some ⟨(ab (subP p cap k 2)), ao (subP p cap k 2) + i * 2, none⟩)) (fun Wx _ => (x_idxAddrS (p := subP p cap k 2) (len := (l.drop k).length) (cap := cap - k) (elem := 23) (kd := .i64) (k := 2) (i := (i : Int)) rfl (by kernel_rfl) (by kernel_rfl) (by kernel_rfl) (by kernel_rfl) (by (first | omega | (simp only [List.length_set, List.length_take, List.length_drop, List.length_append, List.length_cons, List.length_nil]; done) | (simp only [List.length_set, List.length_take, List.length_drop, List.length_append, List.length_cons, List.length_nil]; omega) | (simp only [List.length_set, List.length_take, List.length_drop, List.length_append, List.length_cons, List.length_nil] at *; omega))) (by (first | omega | (simp only [List.length_set, List.length_take, List.length_drop, List.length_append, List.length_cons, List.length_nil]; done) | (simp only [List.length_set, List.length_take, List.length_drop, List.length_append, List.length_cons, List.length_nil]; omega) | (simp only [List.length_set, List.length_take, List.length_drop, List.length_append, List.length_cons, List.length_nil] at *; omega))) (SlAt.ne (k := 2) (SlAt.dropL (k := 2) (hO.row List.mem_cons_self) (fun _ => rfl) cap k (hO.rowCap List.mem_cons_self)) (fun _ => rfl) (by decide) (by (first | omega | (simp only [List.length_set, List.length_take, List.length_drop, List.length_append, List.length_cons, List.length_nil]; done) | (simp only [List.length_set, List.length_take, List.length_drop, List.length_append, List.length_cons, List.length_nil]; omega) | (simp only [List.length_set, List.length_take, List.length_drop, List.length_append, List.length_cons, List.length_nil] at *; omega)) : i < (r.drop k).length)))) (by kernel_rfl) (hO.sub (.cons_cons _ (List.nil_sublist _))) ?_
          clear hF; intro a hF
          refine A_take (i := 3) (listed' := #[true, true, true, true, false, false, false, false, false, false]) rfl (by kernel_rfl) (by kernel_rfl) (by kernel_rfl) (by kernel_rfl) hF (by kernel_rfl) (by kernel_rfl) (v := keyV (nth (r.drop k) i)) (fun Wx hO => x_load (p := .pointer (some ⟨(ab (subP p cap k 2)), ao (subP p cap k 2) + i * 2, none⟩)) rfl (by kernel_rfl) (run_loadEl (k := 2) (by kernel_rfl) (by kernel_rfl) (SlAt.dropL (k := 2) (hO.row List.mem_cons_self) (fun _ => rfl) cap k (hO.rowCap List.mem_cons_self)) (fun _ => rfl) (by (first | omega | (simp only [List.length_set, List.length_take, List.length_drop, List.length_append, List.length_cons, List.length_nil]; done) | (simp only [List.length_set, List.length_take, List.length_drop, List.length_append, List.length_cons, List.length_nil]; omega) | (simp only [List.length_set, List.length_take, List.length_drop, List.length_append, List.length_cons, List.length_nil] at *; omega))) rfl)) (by kernel_rfl) (hO.sub (.cons_cons _ (List.nil_sublist _))) ?_
          clear hF; intro a hF
          refine A_take (i := 4) (listed' := #[true, true, true, true, true, false, false, false, false, false]) rfl (by kernel_rfl) (by kernel_rfl) (by kernel_rfl) (by kernel_rfl) hF (by kernel_rfl) (by kernel_rfl) (v := .slice (subP p cap k 2) ((l.drop k).length) (cap - k)) (fun Wx _ => by kernel_rfl) (by kernel_rfl) (hO.sub (.cons_cons _ (List.nil_sublist _))) ?_
          clear hF; intro a hF
          refine A_take (i := 5) (listed' := #[true, true, true, true, true, true, false, false, false, false]) rfl (by kernel_rfl) (by kernel_rfl) (by kernel_rfl) (by kernel_rfl) hF (by kernel_rfl) (by kernel_rfl) (v := .int .i64 ((i : Int))) (fun Wx _ => by kernel_rfl) (by kernel_rfl) (hO.sub (.cons_cons _ (List.nil_sublist _))) ?_
          clear hF; intro a hF
          refine A_take (i := 6) (listed' := #[true, true, true, true, true, true, true, false, false, false]) rfl (by kernel_rfl) (by kernel_rfl) (by kernel_rfl) (by kernel_rfl) hF (by kernel_rfl) (by kernel_rfl) (v := .int .i64 ((i : Int) - 1)) (fun Wx _ => (x_int (x := IntKind.i64.wrap ((i : Int) - 1)) (i64In (by (first | omega | (simp only [List.length_set, List.length_take, List.length_drop, List.length_append, List.length_cons, List.length_nil]; done) | (simp only [List.length_set, List.length_take, List.length_drop, List.length_append, List.length_cons, List.length_nil]; omega) | (simp only [List.length_set, List.length_take, List.length_drop, List.length_append, List.length_cons, List.length_nil] at *; omega))) (by (first | omega | (simp only [List.length_set, List.length_take, List.length_drop, List.length_append, List.length_cons, List.length_nil]; done) | (simp only [List.length_set, List.length_take, List.length_drop, List.length_append, List.length_cons, List.length_nil]; omega) | (simp only [List.length_set, List.length_take, List.length_drop, List.length_append, List.length_cons, List.length_nil] at *; omega)))) (by kernel_rfl))) (by kernel_rfl) (hO.sub (.cons_cons _ (List.nil_sublist _))) ?_
          clear hF; intro a hF
          refine A_take (i := 7) (listed' := #[true, true, true, true, true, true, true, true, false, false]) rfl (by kernel_rfl) (by kernel_rfl) (by kernel_rfl) (by kernel_rfl) hF (by kernel_rfl) (by kernel_rfl) (v := .pointer (some ⟨(ab (subP p cap k 2)), ao (subP p cap k 2) + (((i : Int) - 1).toNat) * 2, none⟩)) (fun Wx _ => (x_idxAddrS (p := subP p cap k 2) (len := (l.drop k).length) (cap := cap - k) (elem := 23) (kd := .i64) (k := 2) (i := (i : Int) - 1) rfl (by kernel_rfl) (by kernel_rfl) (by kernel_rfl) (by kernel_rfl) (by (first | omega | (simp only [List.length_set, List.length_take, List.length_drop, List.length_append, List.length_cons, List.length_nil]; done) | (simp only [List.length_set, List.length_take, List.length_drop, List.length_append, List.length_cons, List.length_nil]; omega) | (simp only [List.length_set, List.length_take, List.length_drop, List.length_append, List.length_cons, List.length_nil] at *; omega))) (by (first | omega | (simp only [List.length_set, List.length_take, List.length_drop, List.length_append, List.length_cons, List.length_nil]; done) | (simp only [List.length_set, List.length_take, List.length_drop, List.length_append, List.length_cons, List.length_nil]; omega) | (simp only [List.length_set, List.length_take, List.length_drop, List.length_append, List.length_cons, List.length_nil] at *; omega))) (SlAt.ne (k := 2) (SlAt.dropL (k := 2) (hO.row List.mem_cons_self) (fun _ => rfl) cap k (hO.rowCap List.mem_cons_self)) (fun _ => rfl) (by decide) (by (first | omega | (simp only [List.length_set, List.length_take, List.length_drop, List.length_append, List.length_cons, List.length_nil]; done) | (simp only [List.length_set, List.length_take, List.length_drop, List.length_append, List.length_cons, List.length_nil]; omega) | (simp only [List.length_set, List.length_take, List.length_drop, List.length_append, List.length_cons, List.length_nil] at *; omega)) : ((i : Int) - 1).toNat < (r.drop k).length)))) (by kernel_rfl) (hO.sub (.cons_cons _ (List.nil_sublist _))) ?_
          clear hF; intro a hF
          refine A_take (i := 8) (listed' := #[true, true, true, true, true, true, true, true, true, false]) rfl (by kernel_rfl) (by kernel_rfl) (by kernel_rfl) (by kernel_rfl) hF (by kernel_rfl) (by kernel_rfl) (v := keyV (nth (r.drop k) (((i : Int) - 1).toNat))) (fun Wx hO => x_load (p := .pointer (some ⟨(ab (subP p cap k 2)), ao (subP p cap k 2) + (((i : Int) - 1).toNat) * 2, none⟩)) rfl (by kernel_rfl) (run_loadEl (k := 2) (by kernel_rfl) (by kernel_rfl) (SlAt.dropL (k := 2) (hO.row List.mem_cons_self) (fun _ => rfl) cap k (hO.rowCap List.mem_cons_self)) (fun _ => rfl) (by (first | omega | (simp only [List.length_set, List.length_take, List.length_drop, List.length_append, List.length_cons, List.length_nil]; done) | (simp only [List.length_set, List.length_take, List.length_drop, List.length_append, List.length_cons, List.length_nil]; omega) | (simp only [List.length_set, List.length_take, List.length_drop, List.length_append, List.length_cons, List.length_nil] at *; omega))) rfl)) (by kernel_rfl) (hO.sub (.cons_cons _ (List.nil_sublist _))) ?_
          clear hF; intro a hF
          refine A_take (i := 9) (listed' := #[true, true, true, true, true, true, true, true, true, true]) rfl (by kernel_rfl) (by kernel_rfl) (by kernel_rfl) (by kernel_rfl) hF (by kernel_rfl) (by kernel_rfl) (v := .bool (!(decide ((nth (r.drop k) i) = (nth (r.drop k) (((i : Int) - 1).toNat)))))) (fun Wx _ => (x_neKey (a := (nth (r.drop k) i)) (b := (nth (r.drop k) (((i : Int) - 1).toNat))) rfl (by kernel_rfl) (by kernel_rfl))) (by kernel_rfl) (hO.sub (.cons_cons _ (List.nil_sublist _))) ?_
          clear hF; intro a hF
          refine A_done (by kernel_rfl) ?_
          refine hK17 _ _ ?_
          by_cases q5 : ¬ ((nth (r.drop k) i) = (nth (r.drop k) (((i : Int) - 1).toNat)))
          ·
            replace hF := hF.know (d := 44) (v' := .bool true) (by kernel_rfl) (congrArg Value.bool (notT (decide_eq_false q5)))
            refine cond_t hF (by kernel_rfl) (by kernel_rfl) ?_
            refine wp_seq_k fun K18 hK18 => ?_
            refine wp_region_lit ?_
            refine L_val hF (by kernel_rfl) (by kernel_rfl) (v := .slice p l.length cap) (by kernel_rfl) (by kernel_rfl) ?_
            clear hF; intro a hF
            refine L_val hF (by kernel_rfl) (by kernel_rfl) (v := .int .i64 ((m : Int))) (by kernel_rfl) (by kernel_rfl) ?_
            clear hF; intro a hF
            refine L_val hF (by kernel_rfl) (by kernel_rfl) (v := .slice (subP p cap k 2) ((l.drop k).length) (cap - k)) (by kernel_rfl) (by kernel_rfl) ?_
            clear hF; intro a hF
            refine L_val hF (by kernel_rfl) (by kernel_rfl) (v := .int .i64 ((i : Int))) (by kernel_rfl) (by kernel_rfl) ?_
            clear hF; intro a hF
            refine L_val hF (by kernel_rfl) (by kernel_rfl) (v := .pointer (some ⟨(ab (subP p cap k 2)), ao (subP p cap k 2) + i * 2, none⟩)) (x_idxAddrS (p := subP p cap k 2) (len := (l.drop k).length) (cap := cap - k) (elem := 23) (kd := .i64) (k := 2) (i := (i : Int)) rfl (by kernel_rfl) (by kernel_rfl) (by kernel_rfl) (by kernel_rfl) (by (first | omega | (simp only [List.length_set, List.length_take, List.length_drop, List.length_append, List.length_cons, List.length_nil]; done) | (simp only [List.length_set, List.length_take, List.length_drop, List.length_append, List.length_cons, List.length_nil]; omega) | (simp only [List.length_set, List.length_take, List.length_drop, List.length_append, List.length_cons, List.length_nil] at *; omega))) (by (first | omega | (simp only [List.length_set, List.length_take, List.length_drop, List.length_append, List.length_cons, List.length_nil]; done) | (simp only [List.length_set, List.length_take, List.length_drop, List.length_append, List.length_cons, List.length_nil]; omega) | (simp only [List.length_set, List.length_take, List.length_drop, List.length_append, List.length_cons, List.length_nil] at *; omega))) (SlAt.ne (k := 2) (SlAt.dropL (k := 2) (hO.row List.mem_cons_self) (fun _ => rfl) cap k (hO.rowCap List.mem_cons_self)) (fun _ => rfl) (by decide) (by (first | omega | (simp only [List.length_set, List.length_take, List.length_drop, List.length_append, List.length_cons, List.length_nil]; done) | (simp only [List.length_set, List.length_take, List.length_drop, List.length_append, List.length_cons, List.length_nil]; omega) | (simp only [List.length_set, List.length_take, List.length_drop, List.length_append, List.length_cons, List.length_nil] at *; omega)) : i < (r.drop k).length))) (by kernel_rfl) ?_
            clear hF; intro a hF
            refine L_val hF (by kernel_rfl) (by kernel_rfl) (v := keyV (nth (r.drop k) i)) (x_load (p := .pointer (some ⟨(ab (subP p cap k 2)), ao (subP p cap k 2) + i * 2, none⟩)) rfl (by kernel_rfl) (run_loadEl (k := 2) (by kernel_rfl) (by kernel_rfl) (SlAt.dropL (k := 2) (hO.row List.mem_cons_self) (fun _ => rfl) cap k (hO.rowCap List.mem_cons_self)) (fun _ => rfl) (by (first | omega | (simp only [List.length_set, List.length_take, List.length_drop, List.length_append, List.length_cons, List.length_nil]; done) | (simp only [List.length_set, List.length_take, List.length_drop, List.length_append, List.length_cons, List.length_nil]; omega) | (simp only [List.length_set, List.length_take, List.length_drop, List.length_append, List.length_cons, List.length_nil] at *; omega))) rfl)) (by kernel_rfl) ?_
            clear hF; intro a hF
            refine L_val hF (by kernel_rfl) (by kernel_rfl) (v := .pointer (some ⟨(ab p), ao p + m * 2, none⟩)) (x_idxAddrS (p := p) (len := l.length) (cap := cap) (elem := 23) (kd := .i64) (k := 2) (i := (m : Int)) rfl (by kernel_rfl) (by kernel_rfl) (by kernel_rfl) (by kernel_rfl) (by (first | omega | (simp only [List.length_set, List.length_take, List.length_drop, List.length_append, List.length_cons, List.length_nil]; done) | (simp only [List.length_set, List.length_take, List.length_drop, List.length_append, List.length_cons, List.length_nil]; omega) | (simp only [List.length_set, List.length_take, List.length_drop, List.length_append, List.length_cons, List.length_nil] at *; omega))) (by (first | omega | (simp only [List.length_set, List.length_take, List.length_drop, List.length_append, List.length_cons, List.length_nil]; done) | (simp only [List.length_set, List.length_take, List.length_drop, List.length_append, List.length_cons, List.length_nil]; omega) | (simp only [List.length_set, List.length_take, List.length_drop, List.length_append, List.length_cons, List.length_nil] at *; omega))) (SlAt.ne (k := 2) (hO.row List.mem_cons_self) (fun _ => rfl) (by decide) (by (first | omega | (simp only [List.length_set, List.length_take, List.length_drop, List.length_append, List.length_cons, List.length_nil]; done) | (simp only [List.length_set, List.length_take, List.length_drop, List.length_append, List.length_cons, List.length_nil]; omega) | (simp only [List.length_set, List.length_take, List.length_drop, List.length_append, List.length_cons, List.length_nil] at *; omega)) : m < r.length))) (by kernel_rfl) ?_
            clear hF; intro a hF
            obtain ⟨W1, hst, hO1⟩ := run_store_el (P := Tryd.prog) (T := 23) (k := 2) (i := m) (v := keyV (nth (r.drop k) i)) (x' := (nth (r.drop k) i)) hO (.head _) (fun _ => rfl) (by kernel_rfl) (by kernel_rfl) (by (first | omega | (simp only [List.length_set, List.length_take, List.length_drop, List.length_append, List.length_cons, List.length_nil]; done) | (simp only [List.length_set, List.length_take, List.length_drop, List.length_append, List.length_cons, List.length_nil]; omega) | (simp only [List.length_set, List.length_take, List.length_drop, List.length_append, List.length_cons, List.length_nil] at *; omega))) (by kernel_rfl)
            refine L_skip hF (by kernel_rfl) (by kernel_rfl) (x_store (p := .pointer (some ⟨(ab p), ao p + m * 2, none⟩)) (v := keyV (nth (r.drop k) i)) rfl (by kernel_rfl) (by kernel_rfl) hst) (by kernel_rfl) ?_
            clear hst hF; intro a hF; replace hO := hO1; clear hO1
            refine L_nil ?_
            refine hK18 _ _ ?_
            refine wp_region_lit ?_
            refine L_val hF (by kernel_rfl) (by kernel_rfl) (v := .int .i64 ((m : Int))) (by kernel_rfl) (by kernel_rfl) ?_
            clear hF; intro a hF
            refine L_val hF (by kernel_rfl) (by kernel_rfl) (v := .int .i64 ((m : Int) + 1)) (x_int (x := IntKind.i64.wrap ((m : Int) + 1)) (i64In (by (first | omega | (simp only [List.length_set, List.length_take, List.length_drop, List.length_append, List.length_cons, List.length_nil]; done) | (simp only [List.length_set, List.length_take, List.length_drop, List.length_append, List.length_cons, List.length_nil]; omega) | (simp only [List.length_set, List.length_take, List.length_drop, List.length_append, List.length_cons, List.length_nil] at *; omega))) (by (first | omega | (simp only [List.length_set, List.length_take, List.length_drop, List.length_append, List.length_cons, List.length_nil]; done) | (simp only [List.length_set, List.length_take, List.length_drop, List.length_append, List.length_cons, List.length_nil]; omega) | (simp only [List.length_set, List.length_take, List.length_drop, List.length_append, List.length_cons, List.length_nil] at *; omega)))) (by kernel_rfl)) (by kernel_rfl) ?_
            clear hF; intro a hF
            refine L_val hF (by kernel_rfl) (by kernel_rfl) (v := .int .i64 ((m : Int) + 1)) (by kernel_rfl) (by kernel_rfl) ?_
            clear hF; intro a hF
            refine L_nil ?_
            refine block_normal ?_
            refine hK16 _ _ ?_
            refine wp_region_lit ?_
            refine L_val hF (by kernel_rfl) (by kernel_rfl) (v := .int .i64 ((i : Int))) (by kernel_rfl) (by kernel_rfl) ?_
            clear hF; intro a hF
            refine L_val hF (by kernel_rfl) (by kernel_rfl) (v := .int .i64 ((i : Int) + 1)) (x_int (x := IntKind.i64.wrap ((i : Int) + 1)) (i64In (by (first | omega | (simp only [List.length_set, List.length_take, List.length_drop, List.length_append, List.length_cons, List.length_nil]; done) | (simp only [List.length_set, List.length_take, List.length_drop, List.length_append, List.length_cons, List.length_nil]; omega) | (simp only [List.length_set, List.length_take, List.length_drop, List.length_append, List.length_cons, List.length_nil] at *; omega))) (by (first | omega | (simp only [List.length_set, List.length_take, List.length_drop, List.length_append, List.length_cons, List.length_nil]; done) | (simp only [List.length_set, List.length_take, List.length_drop, List.length_append, List.length_cons, List.length_nil]; omega) | (simp only [List.length_set, List.length_take, List.length_drop, List.length_append, List.length_cons, List.length_nil] at *; omega)))) (by kernel_rfl)) (by kernel_rfl) ?_
            clear hF; intro a hF
            refine L_val hF (by kernel_rfl) (by kernel_rfl) (v := .int .i64 ((i : Int) + 1)) (by kernel_rfl) (by kernel_rfl) ?_
            clear hF; intro a hF
            refine L_nil ?_
            refine hK_2 ((i + 1, ((m : Int) + 1).toNat, r.set m (nth (r.drop k) i))) _ _ (by have hdr := List.length_drop (i := k) (l := l); dsimp only; omega) ⟨(by first | exact hI2.1.skip' (by assumption) (by first | assumption | exact Decidable.of_not_not (by assumption)) | exact hI2.1.put' (by assumption) (by assumption)), ?_, ?_⟩
            · exact hF.restrict ⟨(congrArg some (by first | rfl | exact congrArg (Value.int _) (by omega) | simp)), (congrArg some (by first | rfl | exact congrArg (Value.int _) (by omega) | simp)), (congrArg some (by first | rfl | exact congrArg (Value.int _) (by omega) | simp)), (congrArg some (by first | rfl | exact congrArg (Value.int _) (by omega) | simp)), (by kernel_rfl), (by kernel_rfl), (by kernel_rfl), (by kernel_rfl), (by kernel_rfl), (by kernel_rfl), (by kernel_rfl), (by kernel_rfl), (by kernel_rfl), (by kernel_rfl), (by kernel_rfl), (by kernel_rfl), (by kernel_rfl), (by kernel_rfl), (by kernel_rfl), (by kernel_rfl), (by kernel_rfl), trivial⟩
            · exact hO.sub (.cons_cons _ (List.nil_sublist _))
          ·
            replace hF := hF.know (d := 44) (v' := .bool false) (by kernel_rfl) (congrArg Value.bool (notF (decide_eq_true (Decidable.of_not_not q5))))
            refine cond_f hF (by kernel_rfl) (by kernel_rfl) ?_
            refine wp_skip ?_
            refine block_normal ?_
            refine hK16 _ _ ?_
            refine wp_region_lit ?_
            refine L_val hF (by kernel_rfl) (by kernel_rfl) (v := .int .i64 ((i : Int))) (by kernel_rfl) (by kernel_rfl) ?_
            clear hF; intro a hF
            refine L_val hF (by kernel_rfl) (by kernel_rfl) (v := .int .i64 ((i : Int) + 1)) (x_int (x := IntKind.i64.wrap ((i : Int) + 1)) (i64In (by (first | omega | (simp only [List.length_set, List.length_take, List.length_drop, List.length_append, List.length_cons, List.length_nil]; done) | (simp only [List.length_set, List.length_take, List.length_drop, List.length_append, List.length_cons, List.length_nil]; omega) | (simp only [List.length_set, List.length_take, List.length_drop, List.length_append, List.length_cons, List.length_nil] at *; omega))) (by (first | omega | (simp only [List.length_set, List.length_take, List.length_drop, List.length_append, List.length_cons, List.length_nil]; done) | (simp only [List.length_set, List.length_take, List.length_drop, List.length_append, List.length_cons, List.length_nil]; omega) | (simp only [List.length_set, List.length_take, List.length_drop, List.length_append, List.length_cons, List.length_nil] at *; omega)))) (by kernel_rfl)) (by kernel_rfl) ?_
            clear hF; intro a hF
            refine L_val hF (by kernel_rfl) (by kernel_rfl) (v := .int .i64 ((i : Int) + 1)) (by kernel_rfl) (by kernel_rfl) ?_
            clear hF; intro a hF
            refine L_nil ?_
            refine hK_2 ((i + 1, m, r)) _ _ (by have hdr := List.length_drop (i := k) (l := l); dsimp only; omega) ⟨(by first | exact hI2.1.skip' (by assumption) (by first | assumption | exact Decidable.of_not_not (by assumption)) | exact hI2.1.put' (by assumption) (by assumption)), ?_, ?_⟩
            · exact hF.restrict ⟨(congrArg some (by first | rfl | exact congrArg (Value.int _) (by omega) | simp)), (congrArg some (by first | rfl | exact congrArg (Value.int _) (by omega) | simp)), (congrArg some (by first | rfl | exact congrArg (Value.int _) (by omega) | simp)), (congrArg some (by first | rfl | exact congrArg (Value.int _) (by omega) | simp)), (by kernel_rfl), (by kernel_rfl), (by kernel_rfl), (by kernel_rfl), (by kernel_rfl), (by kernel_rfl), (by kernel_rfl), (by kernel_rfl), (by kernel_rfl), (by kernel_rfl), (by kernel_rfl), (by kernel_rfl), (by kernel_rfl), (by kernel_rfl), (by kernel_rfl), (by kernel_rfl), (by kernel_rfl), trivial⟩
            · exact hO.sub (.cons_cons _ (List.nil_sublist _))
        ·
          replace hF := hF.know (d := 32) (v' := .bool false) (by kernel_rfl) (congrArg Value.bool (decide_eq_false q4))
          refine cond_f hF (by kernel_rfl) (by kernel_rfl) ?_
          refine wp_exit ?_
          refine then_exit ?_
          refine then_exit ?_
          refine inBlock_hit ?_
          refine hK12 _ _ ?_
          refine wp_seq_k fun K19 hK19 => ?_
          refine wp_region_lit ?_
          refine L_val hF (by kernel_rfl) (by kernel_rfl) (v := .slice p l.length cap) (by kernel_rfl) (by kernel_rfl) ?_
          clear hF; intro a hF
          refine L_val hF (by kernel_rfl) (by kernel_rfl) (v := .int .i64 ((m : Int))) (by kernel_rfl) (by kernel_rfl) ?_
          clear hF; intro a hF
          refine L_val hF (by kernel_rfl) (by kernel_rfl) (v := .slice (subP p cap m 2) ((r.drop m).length) (cap - m)) (x_slSlL (p := p) (len := l.length) (cap := cap) (elem := 23) (k := 2) (lo := (m : Int)) (hi := (l.length : Int)) rfl (by kernel_rfl) (by kernel_rfl) (by kernel_rfl) ⟨.i64, (by kernel_rfl)⟩ rfl (by (first | omega | (simp only [List.length_set, List.length_take, List.length_drop, List.length_append, List.length_cons, List.length_nil]; done) | (simp only [List.length_set, List.length_take, List.length_drop, List.length_append, List.length_cons, List.length_nil]; omega) | (simp only [List.length_set, List.length_take, List.length_drop, List.length_append, List.length_cons, List.length_nil] at *; omega))) (by (first | omega | (simp only [List.length_set, List.length_take, List.length_drop, List.length_append, List.length_cons, List.length_nil]; done) | (simp only [List.length_set, List.length_take, List.length_drop, List.length_append, List.length_cons, List.length_nil]; omega) | (simp only [List.length_set, List.length_take, List.length_drop, List.length_append, List.length_cons, List.length_nil] at *; omega))) (by have := (hO.rowCap List.mem_cons_self); (first | omega | (simp only [List.length_set, List.length_take, List.length_drop, List.length_append, List.length_cons, List.length_nil]; done) | (simp only [List.length_set, List.length_take, List.length_drop, List.length_append, List.length_cons, List.length_nil]; omega) | (simp only [List.length_set, List.length_take, List.length_drop, List.length_append, List.length_cons, List.length_nil] at *; omega))) (by simp only [List.length_drop, List.length_take]; (first | omega | (simp only [List.length_set, List.length_take, List.length_drop, List.length_append, List.length_cons, List.length_nil]; done) | (simp only [List.length_set, List.length_take, List.length_drop, List.length_append, List.length_cons, List.length_nil]; omega) | (simp only [List.length_set, List.length_take, List.length_drop, List.length_append, List.length_cons, List.length_nil] at *; omega))) rfl) (by kernel_rfl) ?_
          clear hF; intro a hF
          obtain ⟨W2, hcl, hO1⟩ := run_clear_row (P := Tryd.prog) (t := 36) (ty := 0) (z := .agg #[.string (⟨#[]⟩ : ByteArray), .string (⟨#[]⟩ : ByteArray)]) (k := 2) (n := m) (q := (r.drop m).length) (r := cap - m) hO (.head _) (by kernel_rfl) (fun W => by kernel_rfl) (by kernel_rfl) (by kernel_rfl) (fun _ => rfl) (by (first | omega | (simp only [List.length_set, List.length_take, List.length_drop, List.length_append, List.length_cons, List.length_nil]; done) | (simp only [List.length_set, List.length_take, List.length_drop, List.length_append, List.length_cons, List.length_nil]; omega) | (simp only [List.length_set, List.length_take, List.length_drop, List.length_append, List.length_cons, List.length_nil] at *; omega))) (by (first | omega | (simp only [List.length_set, List.length_take, List.length_drop, List.length_append, List.length_cons, List.length_nil]; done) | (simp only [List.length_set, List.length_take, List.length_drop, List.length_append, List.length_cons, List.length_nil]; omega) | (simp only [List.length_set, List.length_take, List.length_drop, List.length_append, List.length_cons, List.length_nil] at *; omega)))
          refine L_valW hF (by kernel_rfl) (by kernel_rfl) (x_clear hcl rfl (by kernel_rfl) rfl) (by kernel_rfl) ?_
          clear hcl hF; intro a hF; replace hO := hO1; clear hO1
          refine L_nil ?_
          refine hK19 _ _ ?_
          refine wp_seq_k fun K20 hK20 => ?_
          refine wp_region_lit ?_
          refine L_val hF (by kernel_rfl) (by kernel_rfl) (v := .slice p l.length cap) (by kernel_rfl) (by kernel_rfl) ?_
          clear hF; intro a hF
          refine L_val hF (by kernel_rfl) (by kernel_rfl) (v := .int .i64 ((m : Int))) (by kernel_rfl) (by kernel_rfl) ?_
          clear hF; intro a hF
          refine L_val hF (by kernel_rfl) (by kernel_rfl) (v := .slice p ((r.take m).length) cap) (x_slSlH (p := p) (len := l.length) (cap := cap) (elem := 23) (k := 2) (hi := (m : Int)) rfl (by kernel_rfl) (by kernel_rfl) (by kernel_rfl) ⟨.i64, (by kernel_rfl)⟩ (by (first | omega | (simp only [List.length_set, List.length_take, List.length_drop, List.length_append, List.length_cons, List.length_nil]; done) | (simp only [List.length_set, List.length_take, List.length_drop, List.length_append, List.length_cons, List.length_nil]; omega) | (simp only [List.length_set, List.length_take, List.length_drop, List.length_append, List.length_cons, List.length_nil] at *; omega))) (by have := (hO.rowCap List.mem_cons_self); (first | omega | (simp only [List.length_set, List.length_take, List.length_drop, List.length_append, List.length_cons, List.length_nil]; done) | (simp only [List.length_set, List.length_take, List.length_drop, List.length_append, List.length_cons, List.length_nil]; omega) | (simp only [List.length_set, List.length_take, List.length_drop, List.length_append, List.length_cons, List.length_nil] at *; omega))) (by (first | omega | (simp only [List.length_set, List.length_take, List.length_drop, List.length_append, List.length_cons, List.length_nil]; done) | (simp only [List.length_set, List.length_take, List.length_drop, List.length_append, List.length_cons, List.length_nil]; omega) | (simp only [List.length_set, List.length_take, List.length_drop, List.length_append, List.length_cons, List.length_nil] at *; omega)))) (by kernel_rfl) ?_
          clear hF; intro a hF
          refine L_val hF (by kernel_rfl) (by kernel_rfl) (v := .slice p ((r.take m).length) cap) (by kernel_rfl) (by kernel_rfl) ?_
          clear hF; intro a hF
          refine L_nil ?_
          refine hK20 _ _ ?_
          refine wp_ret ?_
          refine block_ret ?_
          refine then_ret ?_
          refine then_ret ?_
          refine block_ret ?_
          refine then_ret ?_
          -- way 2: ¬ (l.length : Int) < 2; (k : Int) < (l.length : Int); (nth l k) = (nth l (((k : Int) - 1).toNat)); ¬ (i : Int) < ((l.drop k).length : Int)
          refine ret1 hF (v := .slice p ((r.take m).length) cap) rfl (resT (by kernel_rfl)) (by have he := hI2.1.fin' (by assumption); have ht : m.min r.length = m := Nat.min_eq_left (by omega); exact ⟨by rw [← he], by rw [← he]; exact hO.sub (.cons_cons _ (List.nil_sublist _))⟩) .ret (.inl rfl)
      ·
        replace hF := hF.know (d := 25) (v' := .bool false) (by kernel_rfl) (congrArg Value.bool (decide_eq_false q3))
        refine cond_f hF (by kernel_rfl) (by kernel_rfl) ?_
        refine wp_skip ?_
        refine block_normal ?_
        refine hK9 _ _ ?_
        refine wp_region_lit ?_
        refine L_val hF (by kernel_rfl) (by kernel_rfl) (v := .int .i64 ((k : Int))) (by kernel_rfl) (by kernel_rfl) ?_
        clear hF; intro a hF
        refine L_val hF (by kernel_rfl) (by kernel_rfl) (v := .int .i64 ((k : Int) + 1)) (x_int (x := IntKind.i64.wrap ((k : Int) + 1)) (i64In (by (first | omega | (simp only [List.length_set, List.length_take, List.length_drop, List.length_append, List.length_cons, List.length_nil]; done) | (simp only [List.length_set, List.length_take, List.length_drop, List.length_append, List.length_cons, List.length_nil]; omega) | (simp only [List.length_set, List.length_take, List.length_drop, List.length_append, List.length_cons, List.length_nil] at *; omega))) (by (first | omega | (simp only [List.length_set, List.length_take, List.length_drop, List.length_append, List.length_cons, List.length_nil]; done) | (simp only [List.length_set, List.length_take, List.length_drop, List.length_append, List.length_cons, List.length_nil]; omega) | (simp only [List.length_set, List.length_take, List.length_drop, List.length_append, List.length_cons, List.length_nil] at *; omega)))) (by kernel_rfl)) (by kernel_rfl) ?_
        clear hF; intro a hF
        refine L_val hF (by kernel_rfl) (by kernel_rfl) (v := .int .i64 ((k : Int) + 1)) (by kernel_rfl) (by kernel_rfl) ?_
        clear hF; intro a hF
        refine L_nil ?_
        refine hK_1 (k + 1) _ _ (by first | omega | (dsimp only; omega)) ⟨(by exact compRound hI (by assumption) (by assumption)), ?_, ?_⟩
        · exact hF.restrict ⟨(by kernel_rfl), (congrArg some (by first | rfl | exact congrArg (Value.int _) (by omega) | simp)), trivial⟩
        · exact hO.sub (.cons_cons _ (List.nil_sublist _))
    ·
      replace hF := hF.know (d := 13) (v' := .bool false) (by kernel_rfl) (congrArg Value.bool (decide_eq_false q2))
      refine cond_f hF (by kernel_rfl) (by kernel_rfl) ?_
      refine wp_exit ?_
      refine then_exit ?_
      refine then_exit ?_
      refine inBlock_hit ?_
      refine hK5 _ _ ?_
      refine wp_seq_k fun K21 hK21 => ?_
      refine wp_region_lit ?_
      refine L_val hF (by kernel_rfl) (by kernel_rfl) (v := .slice p l.length cap) (by kernel_rfl) (by kernel_rfl) ?_
      clear hF; intro a hF
      refine L_val hF (by kernel_rfl) (by kernel_rfl) (v := .slice p l.length cap) (by kernel_rfl) (by kernel_rfl) ?_
      clear hF; intro a hF
      refine L_nil ?_
      refine hK21 _ _ ?_
      refine wp_ret ?_
      -- way 3: ¬ (l.length : Int) < 2; ¬ (k : Int) < (l.length : Int)
      refine ret1 hF (v := .slice p l.length cap) rfl (resT (by kernel_rfl)) (by have he := (by first | exact compact_one l (by omega) | exact compEnd hI (by assumption) : compactL l = l); exact ⟨by rw [he], by rw [he]; exact hO.sub (.cons_cons _ (List.nil_sublist _))⟩) .ret (.inl rfl)
theorem compact_Key_n (p : Option Addr) (cap : Nat) (l : List Key) (n : Nat) (he : n = l.length) (W : World) (hr : (rowL keyL 2 23 p cap l).holds (heapF W)) (hn : l.length ≤ 1000000) : Ret Tryd.prog 25 #[.slice p n cap] W fun v W' => v = .slice p (compactL l).length cap ∧ Own W (rowX p) [rowL keyL 2 23 p cap (compactL l)] W' := he ▸ compact_Key p cap l W hr hn

set_option maxRecDepth 20000 in
theorem sort_Key (p : Option Addr) (cap : Nat) (l : List Key) (W : World) (hr : (rowL keyL 2 23 p cap l).holds (heapF W)) (hn : l.length ≤ 1000000) :
    Ret Tryd.prog 24 #[.slice p l.length cap, .func (.func 16) #[] #[]] W fun v W' => v = .tuple #[] ∧ Own W (rowX p) [rowL keyL 2 23 p cap (l.mergeSort fun x y => !(Go.Proofs.ltOf cmpK) y x)] W' := by
  have h6 := sort_row (P := Tryd.prog) (ρ := Tryd.sortKey_ren) (c := keyL) (k := 2) (l := l) (p := p) (cap := cap) (e := 23) (W := W) Tryd.sortKey (fun w => by kernel_rfl) (fun w => by kernel_rfl) (fun _ => rfl) (fun _ => rfl) cmpK swoK totK 16 (enters_of Tryd.func16 (by kernel_rfl) rfl)
  exact h6 names_Compare hr (by omega)

set_option maxRecDepth 20000 in
theorem names_Sort (p : Option Addr) (cap : Nat) (l : List Key) (W : World) (hl : SlAt W p (l.flatMap keyL)) (hn : l.length ≤ 1000) : Ret Tryd.prog 14 #[.slice p l.length cap] W fun v W' => ∃ q qc, v = .slice q ((l.foldl (insL cmpK) []).length) qc ∧ Own W noX [rowL keyL 2 23 q qc (l.foldl (insL cmpK) [])] W' := by
  refine enter Tryd.func14 rfl (n := 10) rfl (by kernel_rfl) (E0 := [(0, .slice p l.length cap)]) (by kernel_rfl) ?_
  intro a hF; have hO := Own.start W noX
  refine wp_seq_k fun K1 hK1 => ?_
  refine wp_region_lit ?_
  refine L_val hF (by kernel_rfl) (by kernel_rfl) (v := .slice none 0 0) (by kernel_rfl) (by kernel_rfl) ?_
  clear hF; intro a hF
  refine L_nil ?_
  refine hK1 _ _ ?_
  refine wp_seq_k fun K2 hK2 => ?_
  refine wp_region_lit ?_
  refine L_val hF (by kernel_rfl) (by kernel_rfl) (v := .slice p l.length cap) (by kernel_rfl) (by kernel_rfl) ?_
  clear hF; intro a hF
  refine L_call hF (by kernel_rfl) (by kernel_rfl) (by kernel_rfl) (by kernel_rfl) (clone_Key (p) cap l W (hl.own hO) (by (first | omega | (simp only [List.length_set, List.length_take, List.length_drop, List.length_append, List.length_cons, List.length_nil]; done) | (simp only [List.length_set, List.length_take, List.length_drop, List.length_append, List.length_cons, List.length_nil]; omega) | (simp only [List.length_set, List.length_take, List.length_drop, List.length_append, List.length_cons, List.length_nil] at *; omega)))) ?_
  clear hF; rintro _ W1 a ⟨q1, qc1, rfl, hk⟩ hF
  replace hO := hO.call1 hk; clear hk
  refine L_val hF (by kernel_rfl) (by kernel_rfl) (v := .slice q1 l.length qc1) (by kernel_rfl) (by kernel_rfl) ?_
  clear hF; intro a hF
  refine L_nil ?_
  refine hK2 _ _ ?_
  refine wp_seq_k fun K3 hK3 => ?_
  refine wp_region_lit ?_
  refine L_val hF (by kernel_rfl) (by kernel_rfl) (v := .slice q1 l.length qc1) (by kernel_rfl) (by kernel_rfl) ?_
  clear hF; intro a hF
  refine L_call hF (by kernel_rfl) (by kernel_rfl) (by kernel_rfl) (by kernel_rfl) (sort_Key (q1) qc1 l W1 (hO.holds _ List.mem_cons_self) (by (first | omega | (simp only [List.length_set, List.length_take, List.length_drop, List.length_append, List.length_cons, List.length_nil]; done) | (simp only [List.length_set, List.length_take, List.length_drop, List.length_append, List.length_cons, List.length_nil]; omega) | (simp only [List.length_set, List.length_take, List.length_drop, List.length_append, List.length_cons, List.length_nil] at *; omega)))) ?_
  clear hF; rintro _ W2 a ⟨rfl, hk⟩ hF
  replace hO := hO.via1 (.head _) hk; clear hk
  refine L_nil ?_
  refine hK3 _ _ ?_
  refine wp_seq_k fun K4 hK4 => ?_
  refine wp_region_lit ?_
  refine L_val hF (by kernel_rfl) (by kernel_rfl) (v := .slice q1 l.length qc1) (by kernel_rfl) (by kernel_rfl) ?_
  clear hF; intro a hF
  refine L_call hF (by kernel_rfl) (by kernel_rfl) (by kernel_rfl) (by kernel_rfl) (compact_Key_n (q1) qc1 (l.mergeSort fun x y => !(Go.Proofs.ltOf cmpK) y x) l.length (by simp only [List.length_mergeSort]) W2 (hO.holds _ List.mem_cons_self) (by simp only [List.length_mergeSort]; (first | omega | (simp only [List.length_set, List.length_take, List.length_drop, List.length_append, List.length_cons, List.length_nil]; done) | (simp only [List.length_set, List.length_take, List.length_drop, List.length_append, List.length_cons, List.length_nil]; omega) | (simp only [List.length_set, List.length_take, List.length_drop, List.length_append, List.length_cons, List.length_nil] at *; omega)))) ?_
  clear hF; rintro _ W3 a ⟨rfl, hk⟩ hF
  replace hO := hO.via1 (.head _) hk; clear hk
  refine L_val hF (by kernel_rfl) (by kernel_rfl) (v := .slice q1 ((compactL (l.mergeSort fun x y => !(Go.Proofs.ltOf cmpK) y x)).length) qc1) (by kernel_rfl) (by kernel_rfl) ?_
  clear hF; intro a hF
  refine L_nil ?_
  refine hK4 _ _ ?_
  refine wp_ret ?_
  -- way 1: 
  refine ret1 hF (v := .slice q1 ((compactL (l.mergeSort fun x y => !(Go.Proofs.ltOf cmpK) y x)).length) qc1) rfl (resT (by kernel_rfl)) (by have he := sort_insK l; exact ⟨_, _, by rw [← he], by rw [← he]; exact hO.sub (.cons_cons _ (List.nil_sublist _))⟩) .ret (.inl rfl)

end Go.Proofs.YtkeialdhogfdjaaDoor
