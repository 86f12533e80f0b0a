import Derived.Test.YtkeialdhogfdjaaDoorSortsW
import Derived.Test.YtkeialdhogfdjaaDoorKeysW
namespace Go.Proofs.YtkeialdhogfdjaaDoor
open Go Go.RowKit
set_option linter.unusedSimpArgs false
set_option linter.unusedVariables false
theorem insL_len (c : Key → Key → Int) : ∀ (l r : List Key), (l.foldl (insL c) r).length ≤ r.length + l.length
  | [], r => by simp
  | k :: t, r => by
    have h := insL_len c t (insL c r k)
    have h2 : (insL c r k).length ≤ r.length + 1 := by
      unfold insL
      simp only
      split
      · omega
      · simp only [List.length_append, List.length_take, List.length_drop, List.length_cons, List.length_nil]; omega
    simp only [List.foldl_cons, List.length_cons]
    omega

set_option maxRecDepth 20000 in
theorem law05_NamesSorts (I : List Nat) (ea : Nat → Addr) (m : Int) (p : Option Addr) (cap : Nat) (l : List Key) (W : World) (hM : W.cell? ⟨18, 0, none⟩ = some (.int .i64 m)) (hE : Errs I ea W) (h5 : I.contains 5 = true) (hl : SlAt W p (l.flatMap keyL)) : Ret Tryd.prog 4 #[.slice p l.length cap] W fun v W' => v = .bool true ∧ Own W noX [] W' := by
  have hRl := insL_len cmpK l []
  simp only [List.length_nil] at hRl
  refine enter Tryd.func4 rfl (n := 87) rfl (by kernel_rfl) (E0 := [(0, .slice p l.length cap)]) (by kernel_rfl) ?_
  intro a hF; have hO := Own.start W noX
  refine wp_seq_k fun K1 hK1 => ?_
  refine wp_region_lit ?_
  refine L_val hF (by kernel_rfl) (by kernel_rfl) (v := .bool false) (by kernel_rfl) (by kernel_rfl) ?_
  clear hF; intro a hF
  refine L_nil ?_
  refine hK1 _ _ ?_
  refine wp_seq_k fun K2 hK2 => ?_
  refine wp_seq_k fun K3 hK3 => ?_
  refine wp_region_lit ?_
  refine L_call hF (by kernel_rfl) (by kernel_rfl) (by kernel_rfl) (by kernel_rfl) (law05_alive I ea m W (hO.oldCell (lt_of_cell hM) (fun h => h) hM) (hE.own hO) h5) ?_
  clear hF; rintro _ W1 a ⟨rfl, hk⟩ hF
  replace hO := hO.call0 hk; clear hk
  refine L_val hF (by kernel_rfl) (by kernel_rfl) (v := .bool false) (by kernel_rfl) (by kernel_rfl) ?_
  clear hF; intro a hF
  refine L_nil ?_
  refine hK3 _ _ ?_
  refine cond_f hF (by kernel_rfl) (by kernel_rfl) ?_
  refine wp_skip ?_
  refine hK2 _ _ ?_
  refine wp_seq_k fun K4 hK4 => ?_
  refine wp_seq_k fun K5 hK5 => ?_
  refine wp_region_lit ?_
  refine L_val hF (by kernel_rfl) (by kernel_rfl) (v := .slice p l.length cap) (by kernel_rfl) (by kernel_rfl) ?_
  clear hF; intro a hF
  refine L_val hF (by kernel_rfl) (by kernel_rfl) (v := .int .i64 ((l.length : Int))) (by kernel_rfl) (by kernel_rfl) ?_
  clear hF; intro a hF
  refine L_val hF (by kernel_rfl) (by kernel_rfl) (v := .bool (decide ((l.length : Int) > 40))) (by kernel_rfl) (by kernel_rfl) ?_
  clear hF; intro a hF
  refine L_nil ?_
  refine hK5 _ _ ?_
  by_cases q1 : (l.length : Int) > 40
  ·
    replace hF := hF.know (d := 15) (v' := .bool true) (by kernel_rfl) (congrArg Value.bool (decide_eq_true q1))
    refine cond_t hF (by kernel_rfl) (by kernel_rfl) ?_
    refine wp_seq_k fun K6 hK6 => ?_
    refine wp_region_lit ?_
    refine L_val hF (by kernel_rfl) (by kernel_rfl) (v := .bool true) (by kernel_rfl) (by kernel_rfl) ?_
    clear hF; intro a hF
    refine L_nil ?_
    refine hK6 _ _ ?_
    refine wp_ret ?_
    refine then_ret ?_
    -- way 1: (l.length : Int) > 40
    refine ret1 hF (v := .bool true) rfl (resT (by kernel_rfl)) (by refine ⟨?_, hO.nil⟩; first | rfl | (simp [*]; done)) .ret (.inl rfl)
  ·
    replace hF := hF.know (d := 15) (v' := .bool false) (by kernel_rfl) (congrArg Value.bool (decide_eq_false q1))
    refine cond_f hF (by kernel_rfl) (by kernel_rfl) ?_
    refine wp_skip ?_
    refine hK4 _ _ ?_
    refine wp_seq_k fun K7 hK7 => ?_
    refine wp_seq_k fun K8 hK8 => ?_
    refine wp_region_lit ?_
    refine L_val hF (by kernel_rfl) (by kernel_rfl) (v := .slice p l.length cap) (by kernel_rfl) (by kernel_rfl) ?_
    clear hF; intro a hF
    refine L_val hF (by kernel_rfl) (by kernel_rfl) (v := .int .i64 ((l.length : Int))) (by kernel_rfl) (by kernel_rfl) ?_
    clear hF; intro a hF
    refine L_val hF (by kernel_rfl) (by kernel_rfl) (v := .int .i64 0) (by kernel_rfl) (by kernel_rfl) ?_
    clear hF; intro a hF
    refine L_nil ?_
    refine hK8 _ _ ?_
    refine wp_block ?_
    refine loopX (τ := Nat) (fun (i : Nat) a Wx => (i ≤ l.length) ∧ Fr 87 a [(0, .slice p l.length cap), (16, .slice p l.length cap), (17, .int .i64 ((l.length : Int))), (18, .int .i64 ((i : Int)))] ∧ Own W noX [] Wx) (fun (i : Nat) => l.length - i) (0) ⟨Nat.zero_le _, ?_, ?_⟩ ?_
    · exact hF.restrict ⟨(by kernel_rfl), (by kernel_rfl), (by kernel_rfl), (congrArg some (by first | rfl | exact congrArg (Value.int _) (by omega) | simp)), trivial⟩
    · exact hO.sub (List.nil_sublist _)
    clear hF hO; rintro i a Wl1 ⟨hI, hF, hO⟩ KhK_1 hK_1
    try dsimp only at hI
    refine wp_seq_k fun K9 hK9 => ?_
    refine wp_region_lit ?_
    refine L_val hF (by kernel_rfl) (by kernel_rfl) (v := .bool (decide ((i : Int) < (l.length : Int)))) (by kernel_rfl) (by kernel_rfl) ?_
    clear hF; intro a hF
    refine L_nil ?_
    refine hK9 _ _ ?_
    refine wp_seq_k fun K10 hK10 => ?_
    by_cases q2 : (i : Int) < (l.length : Int)
    ·
      replace hF := hF.know (d := 19) (v' := .bool true) (by kernel_rfl) (congrArg Value.bool (decide_eq_true q2))
      refine cond_t hF (by kernel_rfl) (by kernel_rfl) ?_
      refine wp_skip ?_
      refine hK10 _ _ ?_
      refine wp_seq_k fun K11 hK11 => ?_
      refine wp_block ?_
      refine wp_seq_k fun K12 hK12 => ?_
      refine wp_region_lit ?_
      refine L_val hF (by kernel_rfl) (by kernel_rfl) (v := .pointer (some ⟨(ab p), ao p + i * 2, none⟩)) (x_idxAddrS (p := p) (len := l.length) (cap := cap) (elem := 23) (kd := .i64) (k := 2) (i := (i : Int)) rfl (by kernel_rfl) (by kernel_rfl) (by kernel_rfl) (by kernel_rfl) (by omega) (by omega) (SlAt.ne (k := 2) (hl.own hO) (fun _ => rfl) (by decide) (by (first | omega | (simp only [List.length_set, List.length_take, List.length_drop, List.length_append, List.length_cons, List.length_nil]; done) | (simp only [List.length_set, List.length_take, List.length_drop, List.length_append, List.length_cons, List.length_nil]; omega) | (simp only [List.length_set, List.length_take, List.length_drop, List.length_append, List.length_cons, List.length_nil] at *; omega)) : i < l.length))) (by kernel_rfl) ?_
      clear hF; intro a hF
      refine L_val hF (by kernel_rfl) (by kernel_rfl) (v := keyV (nth l i)) (x_load (p := .pointer (some ⟨(ab p), ao p + i * 2, none⟩)) rfl (by kernel_rfl) (run_loadEl (k := 2) (by kernel_rfl) (by kernel_rfl) (hl.own hO) (fun _ => rfl) (by (first | omega | (simp only [List.length_set, List.length_take, List.length_drop, List.length_append, List.length_cons, List.length_nil]; done) | (simp only [List.length_set, List.length_take, List.length_drop, List.length_append, List.length_cons, List.length_nil]; omega) | (simp only [List.length_set, List.length_take, List.length_drop, List.length_append, List.length_cons, List.length_nil] at *; omega))) rfl)) (by kernel_rfl) ?_
      clear hF; intro a hF
      refine L_new hF hO (by kernel_rfl) (by kernel_rfl) (vf := fun b => .pointer (some ⟨b, 0, none⟩)) (ob := .cells #[.string (⟨#[]⟩ : ByteArray), .string (⟨#[]⟩ : ByteArray)] 23) (by kernel_rfl) (by kernel_rfl) ?_
      clear hF hO; intro b1 W2 a hO hF
      obtain ⟨W3, hst, hO1⟩ := run_storeAt (P := Tryd.prog) (k := 2) (T := 23) (off := 0) (v := keyV (nth l i)) (cs := #[.string (⟨#[]⟩ : ByteArray), .string (⟨#[]⟩ : ByteArray)]) (cs' := #[.string ((nth l i).space), .string ((nth l i).name)]) hO (by kernel_rfl) (by kernel_rfl) (by kernel_rfl) (Nat.le_of_ble_eq_true (by kernel_rfl)) (by kernel_rfl) (.head _)
      refine L_skip hF (by kernel_rfl) (by kernel_rfl) (x_store (p := .pointer (some ⟨b1, 0, none⟩)) (v := keyV (nth l i)) rfl (by kernel_rfl) (by kernel_rfl) hst) (by kernel_rfl) ?_
      clear hst hF; intro a hF; replace hO := hO1; clear hO1
      refine L_nil ?_
      refine hK12 _ _ ?_
      refine wp_seq_k fun K13 hK13 => ?_
      refine wp_region_lit ?_
      refine L_val hF (by kernel_rfl) (by kernel_rfl) (v := .pointer (some ⟨b1, 0, none⟩)) (by kernel_rfl) (by kernel_rfl) ?_
      clear hF; intro a hF
      refine L_val hF (by kernel_rfl) (by kernel_rfl) (v := .string ((nth l i).space)) (x_load (p := .pointer (some ⟨b1, 0, none⟩)) rfl (by kernel_rfl) (run_load1 (by kernel_rfl) ((hO.cell List.mem_cons_self).trans (by kernel_rfl)))) (by kernel_rfl) ?_
      clear hF; intro a hF
      refine L_val hF (by kernel_rfl) (by kernel_rfl) (v := .int .i64 ((((nth l i).space).size : Int))) (by kernel_rfl) (by kernel_rfl) ?_
      clear hF; intro a hF
      refine L_val hF (by kernel_rfl) (by kernel_rfl) (v := .bool (decide ((((nth l i).space).size : Int) > 100))) (by kernel_rfl) (by kernel_rfl) ?_
      clear hF; intro a hF
      refine L_val hF (by kernel_rfl) (by kernel_rfl) (v := .bool (decide ((((nth l i).space).size : Int) > 100))) (by kernel_rfl) (by kernel_rfl) ?_
      clear hF; intro a hF
      by_cases q3 : (((nth l i).space).size : Int) > 100
      ·
        replace hF := hF.know (d := 26) (v' := .bool true) (by kernel_rfl) (congrArg Value.bool (decide_eq_true q3))
        refine L_off hF (by kernel_rfl) (by kernel_rfl) ?_
        clear hF; intro a hF
        refine L_off hF (by kernel_rfl) (by kernel_rfl) ?_
        clear hF; intro a hF
        refine L_off hF (by kernel_rfl) (by kernel_rfl) ?_
        clear hF; intro a hF
        refine L_off hF (by kernel_rfl) (by kernel_rfl) ?_
        clear hF; intro a hF
        refine L_val hF (by kernel_rfl) (by kernel_rfl) (v := .bool true) (by kernel_rfl) (by kernel_rfl) ?_
        clear hF; intro a hF
        refine L_nil ?_
        refine hK13 _ _ ?_
        refine cond_t hF (by kernel_rfl) (by kernel_rfl) ?_
        refine wp_seq_k fun K14 hK14 => ?_
        refine wp_region_lit ?_
        refine L_val hF (by kernel_rfl) (by kernel_rfl) (v := .bool true) (by kernel_rfl) (by kernel_rfl) ?_
        clear hF; intro a hF
        refine L_nil ?_
        refine hK14 _ _ ?_
        refine wp_ret ?_
        refine block_ret ?_
        refine then_ret ?_
        refine then_ret ?_
        refine block_ret ?_
        refine then_ret ?_
        -- way 2: ¬ (l.length : Int) > 40; (i : Int) < (l.length : Int); (((nth l i).space).size : Int) > 100
        refine ret1 hF (v := .bool true) rfl (resT (by kernel_rfl)) (by refine ⟨?_, hO.nil⟩; first | rfl | (simp [*]; done)) .ret (.inl rfl)
      ·
        replace hF := hF.know (d := 26) (v' := .bool false) (by kernel_rfl) (congrArg Value.bool (decide_eq_false q3))
        refine L_val hF (by kernel_rfl) (by kernel_rfl) (v := .pointer (some ⟨b1, 1, none⟩)) (by kernel_rfl) (by kernel_rfl) ?_
        clear hF; intro a hF
        refine L_val hF (by kernel_rfl) (by kernel_rfl) (v := .string ((nth l i).name)) (x_load (p := .pointer (some ⟨b1, 1, none⟩)) rfl (by kernel_rfl) (run_load1 (by kernel_rfl) ((hO.cell List.mem_cons_self).trans (by kernel_rfl)))) (by kernel_rfl) ?_
        clear hF; intro a hF
        refine L_val hF (by kernel_rfl) (by kernel_rfl) (v := .int .i64 ((((nth l i).name).size : Int))) (by kernel_rfl) (by kernel_rfl) ?_
        clear hF; intro a hF
        refine L_val hF (by kernel_rfl) (by kernel_rfl) (v := .bool (decide ((((nth l i).name).size : Int) > 100))) (by kernel_rfl) (by kernel_rfl) ?_
        clear hF; intro a hF
        refine L_val hF (by kernel_rfl) (by kernel_rfl) (v := .bool (decide ((((nth l i).name).size : Int) > 100))) (by kernel_rfl) (by kernel_rfl) ?_
        clear hF; intro a hF
        refine L_nil ?_
        refine hK13 _ _ ?_
        by_cases q4 : (((nth l i).name).size : Int) > 100
        ·
          replace hF := hF.know (d := 31) (v' := .bool true) (by kernel_rfl) (congrArg Value.bool (decide_eq_true q4))
          refine cond_t hF (by kernel_rfl) (by kernel_rfl) ?_
          refine wp_seq_k fun K15 hK15 => ?_
          refine wp_region_lit ?_
          refine L_val hF (by kernel_rfl) (by kernel_rfl) (v := .bool true) (by kernel_rfl) (by kernel_rfl) ?_
          clear hF; intro a hF
          refine L_nil ?_
          refine hK15 _ _ ?_
          refine wp_ret ?_
          refine block_ret ?_
          refine then_ret ?_
          refine then_ret ?_
          refine block_ret ?_
          refine then_ret ?_
          -- way 3: ¬ (l.length : Int) > 40; (i : Int) < (l.length : Int); ¬ (((nth l i).space).size : Int) > 100; (((nth l i).name).size : Int) > 100
          refine ret1 hF (v := .bool true) rfl (resT (by kernel_rfl)) (by refine ⟨?_, hO.nil⟩; first | rfl | (simp [*]; done)) .ret (.inl rfl)
        ·
          replace hF := hF.know (d := 31) (v' := .bool false) (by kernel_rfl) (congrArg Value.bool (decide_eq_false q4))
          refine cond_f hF (by kernel_rfl) (by kernel_rfl) ?_
          refine wp_skip ?_
          refine block_normal ?_
          refine hK11 _ _ ?_
          refine wp_region_lit ?_
          refine L_val hF (by kernel_rfl) (by kernel_rfl) (v := .int .i64 ((i : Int) + 1)) (x_int (x := IntKind.i64.wrap ((i : Int) + 1)) (i64In (by omega) (by omega)) (by kernel_rfl)) (by kernel_rfl) ?_
          clear hF; intro a hF
          refine L_val hF (by kernel_rfl) (by kernel_rfl) (v := .int .i64 ((i : Int) + 1)) (by kernel_rfl) (by kernel_rfl) ?_
          clear hF; intro a hF
          refine L_nil ?_
          refine hK_1 (i + 1) _ _ (by first | omega | (dsimp only; omega)) ⟨by omega, ?_, ?_⟩
          · exact hF.restrict ⟨(by kernel_rfl), (by kernel_rfl), (by kernel_rfl), (congrArg some (by first | rfl | exact congrArg (Value.int _) (by omega) | simp)), trivial⟩
          · exact hO.sub (List.nil_sublist _)
    ·
      replace hF := hF.know (d := 19) (v' := .bool false) (by kernel_rfl) (congrArg Value.bool (decide_eq_false q2))
      refine cond_f hF (by kernel_rfl) (by kernel_rfl) ?_
      refine wp_exit ?_
      refine then_exit ?_
      refine then_exit ?_
      refine inBlock_hit ?_
      refine hK7 _ _ ?_
      refine wp_seq_k fun K16 hK16 => ?_
      refine wp_region_lit ?_
      refine L_new hF hO (by kernel_rfl) (by kernel_rfl) (vf := fun b => .slice (some ⟨b, 0, none⟩) 0 0) (ob := .cells #[] 23) (by kernel_rfl) (by kernel_rfl) ?_
      clear hF hO; intro b2 W4 a hO hF
      refine L_val hF (by kernel_rfl) (by kernel_rfl) (v := .slice p l.length cap) (by kernel_rfl) (by kernel_rfl) ?_
      clear hF; intro a hF
      replace hO := hO.asRow (k := 2) (cap := 0) keyL ([] : List Key) (.head _) (by decide) (by kernel_rfl) (by decide) (by kernel_rfl)
      obtain ⟨p1, cap1, W5, hap, hO1, -⟩ := run_append_row (P := Tryd.prog) (ty := 36) (t := 36) (z := .agg #[.string (⟨#[]⟩ : ByteArray), .string (⟨#[]⟩ : ByteArray)]) (k := 2) (bytes := 32) (q := p) (ys := l) (cq := cap) hO (.head _) (by kernel_rfl) (by kernel_rfl) (by kernel_rfl) (by decide) (fun _ => rfl) (fun _ => rfl) (hl.own hO) (by (try simp only [List.length_append, List.length_take, List.length_drop, List.length_cons, List.length_nil, maxLen]); omega) (by (try simp only [List.length_append, List.length_take, List.length_drop, List.length_cons, List.length_nil, maxLen]); omega)
      refine L_valW hF (by kernel_rfl) (by kernel_rfl) (x_app hap rfl (by kernel_rfl) (by kernel_rfl) rfl) (by kernel_rfl) ?_
      clear hap hF; intro a hF; replace hO := hO1; clear hO1
      refine L_val hF (by kernel_rfl) (by kernel_rfl) (v := .slice p1 l.length cap1) (by kernel_rfl) (by kernel_rfl) ?_
      clear hF; intro a hF
      refine L_nil ?_
      refine hK16 _ _ ?_
      refine wp_seq_k fun K17 hK17 => ?_
      refine wp_region_lit ?_
      refine L_val hF (by kernel_rfl) (by kernel_rfl) (v := .slice p1 l.length cap1) (by kernel_rfl) (by kernel_rfl) ?_
      clear hF; intro a hF
      refine L_call hF (by kernel_rfl) (by kernel_rfl) (by kernel_rfl) (by kernel_rfl) (names_Sort (p1) cap1 l W5 (hO.row List.mem_cons_self) (by (first | omega | (simp only [List.length_set, List.length_take, List.length_drop, List.length_append, List.length_cons, List.length_nil]; done) | (simp only [List.length_set, List.length_take, List.length_drop, List.length_append, List.length_cons, List.length_nil]; omega) | (simp only [List.length_set, List.length_take, List.length_drop, List.length_append, List.length_cons, List.length_nil] at *; omega)))) ?_
      clear hF; rintro _ W6 a ⟨q5, qc1, rfl, hk⟩ hF
      replace hO := hO.call1 hk; clear hk
      refine L_val hF (by kernel_rfl) (by kernel_rfl) (v := .slice p l.length cap) (by kernel_rfl) (by kernel_rfl) ?_
      clear hF; intro a hF
      refine L_call hF (by kernel_rfl) (by kernel_rfl) (by kernel_rfl) (by kernel_rfl) (ref05_Sort (p) cap l W6 (hl.own hO) (by (first | omega | (simp only [List.length_set, List.length_take, List.length_drop, List.length_append, List.length_cons, List.length_nil]; done) | (simp only [List.length_set, List.length_take, List.length_drop, List.length_append, List.length_cons, List.length_nil]; omega) | (simp only [List.length_set, List.length_take, List.length_drop, List.length_append, List.length_cons, List.length_nil] at *; omega)))) ?_
      clear hF; rintro _ W7 a ⟨q6, qc2, rfl, hk⟩ hF
      replace hO := hO.call1 hk; clear hk
      refine L_val hF (by kernel_rfl) (by kernel_rfl) (v := .slice q5 ((l.foldl (insL cmpK) []).length) qc1) (by kernel_rfl) (by kernel_rfl) ?_
      clear hF; intro a hF
      refine L_val hF (by kernel_rfl) (by kernel_rfl) (v := .slice q6 ((l.foldl (insL cmpK) []).length) qc2) (by kernel_rfl) (by kernel_rfl) ?_
      clear hF; intro a hF
      refine L_nil ?_
      refine hK17 _ _ ?_
      refine wp_seq_k fun K18 hK18 => ?_
      refine wp_seq_k fun K19 hK19 => ?_
      refine wp_region_lit ?_
      refine L_val hF (by kernel_rfl) (by kernel_rfl) (v := .slice q5 ((l.foldl (insL cmpK) []).length) qc1) (by kernel_rfl) (by kernel_rfl) ?_
      clear hF; intro a hF
      refine L_val hF (by kernel_rfl) (by kernel_rfl) (v := .int .i64 (((l.foldl (insL cmpK) []).length : Int))) (by kernel_rfl) (by kernel_rfl) ?_
      clear hF; intro a hF
      refine L_val hF (by kernel_rfl) (by kernel_rfl) (v := .slice q6 ((l.foldl (insL cmpK) []).length) qc2) (by kernel_rfl) (by kernel_rfl) ?_
      clear hF; intro a hF
      refine L_val hF (by kernel_rfl) (by kernel_rfl) (v := .int .i64 (((l.foldl (insL cmpK) []).length : Int))) (by kernel_rfl) (by kernel_rfl) ?_
      clear hF; intro a hF
      refine L_val hF (by kernel_rfl) (by kernel_rfl) (v := .bool false) (x_bool (x := !(((l.foldl (insL cmpK) []).length : Int) == ((l.foldl (insL cmpK) []).length : Int))) (notF (beq_self_eq_true _)) (by kernel_rfl)) (by kernel_rfl) ?_
      clear hF; intro a hF
      refine L_nil ?_
      refine hK19 _ _ ?_
      refine cond_f hF (by kernel_rfl) (by kernel_rfl) ?_
      refine wp_skip ?_
      refine hK18 _ _ ?_
      refine wp_seq_k fun K20 hK20 => ?_
      refine wp_seq_k fun K21 hK21 => ?_
      refine wp_region_lit ?_
      refine L_val hF (by kernel_rfl) (by kernel_rfl) (v := .slice q5 ((l.foldl (insL cmpK) []).length) qc1) (by kernel_rfl) (by kernel_rfl) ?_
      clear hF; intro a hF
      refine L_val hF (by kernel_rfl) (by kernel_rfl) (v := .int .i64 (((l.foldl (insL cmpK) []).length : Int))) (by kernel_rfl) (by kernel_rfl) ?_
      clear hF; intro a hF
      refine L_val hF (by kernel_rfl) (by kernel_rfl) (v := .int .i64 0) (by kernel_rfl) (by kernel_rfl) ?_
      clear hF; intro a hF
      refine L_nil ?_
      refine hK21 _ _ ?_
      refine wp_block ?_
      refine loopX (τ := Nat) (fun (i : Nat) a Wx => (i ≤ (l.foldl (insL cmpK) []).length) ∧ Fr 87 a [(0, .slice p l.length cap), (5, .slice p1 l.length cap1), (6, .slice q5 ((l.foldl (insL cmpK) []).length) qc1), (7, .slice q6 ((l.foldl (insL cmpK) []).length) qc2), (46, .int .i64 (((l.foldl (insL cmpK) []).length : Int))), (47, .int .i64 ((i : Int)))] ∧ Own W noX [rowL keyL 2 23 q6 qc2 (l.foldl (insL cmpK) []), rowL keyL 2 23 q5 qc1 (l.foldl (insL cmpK) []), rowL keyL 2 23 p1 cap1 l] Wx) (fun (i : Nat) => (l.foldl (insL cmpK) []).length - i) (0) ⟨Nat.zero_le _, ?_, ?_⟩ ?_
      · exact hF.restrict ⟨(by kernel_rfl), (by kernel_rfl), (by kernel_rfl), (by kernel_rfl), (by kernel_rfl), (congrArg some (by first | rfl | exact congrArg (Value.int _) (by omega) | simp)), trivial⟩
      · exact hO.sub (.cons_cons _ (.cons_cons _ (.cons_cons _ (List.nil_sublist _))))
      clear hF hO; rintro i a Wl2 ⟨hI, hF, hO⟩ KhK_2 hK_2
      try dsimp only at hI
      refine wp_seq_k fun K22 hK22 => ?_
      refine wp_region_lit ?_
      refine L_val hF (by kernel_rfl) (by kernel_rfl) (v := .bool (decide ((i : Int) < ((l.foldl (insL cmpK) []).length : Int)))) (by kernel_rfl) (by kernel_rfl) ?_
      clear hF; intro a hF
      refine L_nil ?_
      refine hK22 _ _ ?_
      refine wp_seq_k fun K23 hK23 => ?_
      by_cases q7 : (i : Int) < ((l.foldl (insL cmpK) []).length : Int)
      ·
        replace hF := hF.know (d := 48) (v' := .bool true) (by kernel_rfl) (congrArg Value.bool (decide_eq_true q7))
        refine cond_t hF (by kernel_rfl) (by kernel_rfl) ?_
        refine wp_skip ?_
        refine hK23 _ _ ?_
        refine wp_seq_k fun K24 hK24 => ?_
        refine wp_block ?_
        refine wp_seq_k fun K25 hK25 => ?_
        refine wp_region_lit ?_
        refine L_val hF (by kernel_rfl) (by kernel_rfl) (v := .int .i64 ((i : Int))) (by kernel_rfl) (by kernel_rfl) ?_
        clear hF; intro a hF
        refine L_val hF (by kernel_rfl) (by kernel_rfl) (v := .int .i64 ((i : Int))) (by kernel_rfl) (by kernel_rfl) ?_
        clear hF; intro a hF
        refine L_nil ?_
        refine hK25 _ _ ?_
        refine wp_seq_k fun K26 hK26 => ?_
        refine A_start (fun Wx => Own W noX [rowL keyL 2 23 q6 qc2 (l.foldl (insL cmpK) []), rowL keyL 2 23 q5 qc1 (l.foldl (insL cmpK) []), rowL keyL 2 23 p1 cap1 l] Wx) (by kernel_rfl) ?_
        replace hO := hO.drewN 1
        generalize hWd : ({ Wl2 with drawn := Wl2.drawn + 1 } : World) = Wl2_d at hO ⊢; clear hWd
        refine A_take (i := 0) (listed' := #[true, false, false, false, false, false, false, false, false]) rfl (by kernel_rfl) (by kernel_rfl) (by kernel_rfl) (by kernel_rfl) hF (by kernel_rfl) (by kernel_rfl) (v := .slice q5 ((l.foldl (insL cmpK) []).length) qc1) (fun Wx _ => by kernel_rfl) (by kernel_rfl) (hO.sub (.cons_cons _ (.cons_cons _ (.cons_cons _ (List.nil_sublist _))))) ?_
        clear hF; intro a hF
        refine A_take (i := 1) (listed' := #[true, true, false, false, false, false, false, false, false]) rfl (by kernel_rfl) (by kernel_rfl) (by kernel_rfl) (by kernel_rfl) hF (by kernel_rfl) (by kernel_rfl) (v := .int .i64 ((i : Int))) (fun Wx _ => by kernel_rfl) (by kernel_rfl) (hO.sub (.cons_cons _ (.cons_cons _ (.cons_cons _ (List.nil_sublist _))))) ?_
        clear hF; intro a hF
        refine A_take (i := 2) (listed' := #[true, true, true, false, false, false, false, false, false]) rfl (by kernel_rfl) (by kernel_rfl) (by kernel_rfl) (by kernel_rfl) hF (by kernel_rfl) (by kernel_rfl) (v := .pointer (some ⟨(ab q5), ao q5 + i * 2, none⟩)) (fun Wx _ => (x_idxAddrS (p := q5) (len := (l.foldl (insL cmpK) []).length) (cap := qc1) (elem := 23) (kd := .i64) (k := 2) (i := (i : Int)) rfl (by kernel_rfl) (by kernel_rfl) (by kernel_rfl) (by kernel_rfl) (by omega) (by omega) (SlAt.ne (k := 2) (hO.row (List.mem_cons_of_mem _ List.mem_cons_self)) (fun _ => rfl) (by decide) (by (first | omega | (simp only [List.length_set, List.length_take, List.length_drop, List.length_append, List.length_cons, List.length_nil]; done) | (simp only [List.length_set, List.length_take, List.length_drop, List.length_append, List.length_cons, List.length_nil]; omega) | (simp only [List.length_set, List.length_take, List.length_drop, List.length_append, List.length_cons, List.length_nil] at *; omega)) : i < (l.foldl (insL cmpK) []).length)))) (by kernel_rfl) (hO.sub (.cons_cons _ (.cons_cons _ (.cons_cons _ (List.nil_sublist _))))) ?_
        clear hF; intro a hF
        refine A_take (i := 3) (listed' := #[true, true, true, true, false, false, false, false, false]) rfl (by kernel_rfl) (by kernel_rfl) (by kernel_rfl) (by kernel_rfl) hF (by kernel_rfl) (by kernel_rfl) (v := keyV (nth (l.foldl (insL cmpK) []) i)) (fun Wx hO => x_load (p := .pointer (some ⟨(ab q5), ao q5 + i * 2, none⟩)) rfl (by kernel_rfl) (run_loadEl (k := 2) (by kernel_rfl) (by kernel_rfl) (hO.row (List.mem_cons_of_mem _ List.mem_cons_self)) (fun _ => rfl) (by (first | omega | (simp only [List.length_set, List.length_take, List.length_drop, List.length_append, List.length_cons, List.length_nil]; done) | (simp only [List.length_set, List.length_take, List.length_drop, List.length_append, List.length_cons, List.length_nil]; omega) | (simp only [List.length_set, List.length_take, List.length_drop, List.length_append, List.length_cons, List.length_nil] at *; omega))) rfl)) (by kernel_rfl) (hO.sub (.cons_cons _ (.cons_cons _ (.cons_cons _ (List.nil_sublist _))))) ?_
        clear hF; intro a hF
        refine A_take (i := 4) (listed' := #[true, true, true, true, true, false, false, false, false]) rfl (by kernel_rfl) (by kernel_rfl) (by kernel_rfl) (by kernel_rfl) hF (by kernel_rfl) (by kernel_rfl) (v := .slice q6 ((l.foldl (insL cmpK) []).length) qc2) (fun Wx _ => by kernel_rfl) (by kernel_rfl) (hO.sub (.cons_cons _ (.cons_cons _ (.cons_cons _ (List.nil_sublist _))))) ?_
        clear hF; intro a hF
        refine A_take (i := 5) (listed' := #[true, true, true, true, true, true, false, false, false]) rfl (by kernel_rfl) (by kernel_rfl) (by kernel_rfl) (by kernel_rfl) hF (by kernel_rfl) (by kernel_rfl) (v := .int .i64 ((i : Int))) (fun Wx _ => by kernel_rfl) (by kernel_rfl) (hO.sub (.cons_cons _ (.cons_cons _ (.cons_cons _ (List.nil_sublist _))))) ?_
        clear hF; intro a hF
        refine A_take (i := 6) (listed' := #[true, true, true, true, true, true, true, false, false]) rfl (by kernel_rfl) (by kernel_rfl) (by kernel_rfl) (by kernel_rfl) hF (by kernel_rfl) (by kernel_rfl) (v := .pointer (some ⟨(ab q6), ao q6 + i * 2, none⟩)) (fun Wx _ => (x_idxAddrS (p := q6) (len := (l.foldl (insL cmpK) []).length) (cap := qc2) (elem := 23) (kd := .i64) (k := 2) (i := (i : Int)) rfl (by kernel_rfl) (by kernel_rfl) (by kernel_rfl) (by kernel_rfl) (by omega) (by omega) (SlAt.ne (k := 2) (hO.row List.mem_cons_self) (fun _ => rfl) (by decide) (by (first | omega | (simp only [List.length_set, List.length_take, List.length_drop, List.length_append, List.length_cons, List.length_nil]; done) | (simp only [List.length_set, List.length_take, List.length_drop, List.length_append, List.length_cons, List.length_nil]; omega) | (simp only [List.length_set, List.length_take, List.length_drop, List.length_append, List.length_cons, List.length_nil] at *; omega)) : i < (l.foldl (insL cmpK) []).length)))) (by kernel_rfl) (hO.sub (.cons_cons _ (.cons_cons _ (.cons_cons _ (List.nil_sublist _))))) ?_
        clear hF; intro a hF
        refine A_take (i := 7) (listed' := #[true, true, true, true, true, true, true, true, false]) rfl (by kernel_rfl) (by kernel_rfl) (by kernel_rfl) (by kernel_rfl) hF (by kernel_rfl) (by kernel_rfl) (v := keyV (nth (l.foldl (insL cmpK) []) i)) (fun Wx hO => x_load (p := .pointer (some ⟨(ab q6), ao q6 + i * 2, none⟩)) rfl (by kernel_rfl) (run_loadEl (k := 2) (by kernel_rfl) (by kernel_rfl) (hO.row List.mem_cons_self) (fun _ => rfl) (by (first | omega | (simp only [List.length_set, List.length_take, List.length_drop, List.length_append, List.length_cons, List.length_nil]; done) | (simp only [List.length_set, List.length_take, List.length_drop, List.length_append, List.length_cons, List.length_nil]; omega) | (simp only [List.length_set, List.length_take, List.length_drop, List.length_append, List.length_cons, List.length_nil] at *; omega))) rfl)) (by kernel_rfl) (hO.sub (.cons_cons _ (.cons_cons _ (.cons_cons _ (List.nil_sublist _))))) ?_
        clear hF; intro a hF
        refine A_take (i := 8) (listed' := #[true, true, true, true, true, true, true, true, true]) rfl (by kernel_rfl) (by kernel_rfl) (by kernel_rfl) (by kernel_rfl) hF (by kernel_rfl) (by kernel_rfl) (v := .bool false) (fun Wx _ => (x_bool (x := !(decide ((nth (l.foldl (insL cmpK) []) i) = (nth (l.foldl (insL cmpK) []) i)))) (notF (decide_eq_true rfl)) (x_neKey (a := (nth (l.foldl (insL cmpK) []) i)) (b := (nth (l.foldl (insL cmpK) []) i)) rfl (by kernel_rfl) (by kernel_rfl)))) (by kernel_rfl) (hO.sub (.cons_cons _ (.cons_cons _ (.cons_cons _ (List.nil_sublist _))))) ?_
        clear hF; intro a hF
        refine A_done (by kernel_rfl) ?_
        refine hK26 _ _ ?_
        refine cond_f hF (by kernel_rfl) (by kernel_rfl) ?_
        refine wp_skip ?_
        refine block_normal ?_
        refine hK24 _ _ ?_
        refine wp_region_lit ?_
        refine L_val hF (by kernel_rfl) (by kernel_rfl) (v := .int .i64 ((i : Int) + 1)) (x_int (x := IntKind.i64.wrap ((i : Int) + 1)) (i64In (by omega) (by omega)) (by kernel_rfl)) (by kernel_rfl) ?_
        clear hF; intro a hF
        refine L_val hF (by kernel_rfl) (by kernel_rfl) (v := .int .i64 ((i : Int) + 1)) (by kernel_rfl) (by kernel_rfl) ?_
        clear hF; intro a hF
        refine L_nil ?_
        refine hK_2 (i + 1) _ _ (by first | omega | (dsimp only; omega)) ⟨by omega, ?_, ?_⟩
        · exact hF.restrict ⟨(by kernel_rfl), (by kernel_rfl), (by kernel_rfl), (by kernel_rfl), (by kernel_rfl), (congrArg some (by first | rfl | exact congrArg (Value.int _) (by omega) | simp)), trivial⟩
        · exact hO.sub (.cons_cons _ (.cons_cons _ (.cons_cons _ (List.nil_sublist _))))
      ·
        replace hF := hF.know (d := 48) (v' := .bool false) (by kernel_rfl) (congrArg Value.bool (decide_eq_false q7))
        refine cond_f hF (by kernel_rfl) (by kernel_rfl) ?_
        refine wp_exit ?_
        refine then_exit ?_
        refine then_exit ?_
        refine inBlock_hit ?_
        refine hK20 _ _ ?_
        refine wp_seq_k fun K27 hK27 => ?_
        refine wp_seq_k fun K28 hK28 => ?_
        refine wp_region_lit ?_
        refine L_val hF (by kernel_rfl) (by kernel_rfl) (v := .slice p l.length cap) (by kernel_rfl) (by kernel_rfl) ?_
        clear hF; intro a hF
        refine L_val hF (by kernel_rfl) (by kernel_rfl) (v := .int .i64 ((l.length : Int))) (by kernel_rfl) (by kernel_rfl) ?_
        clear hF; intro a hF
        refine L_val hF (by kernel_rfl) (by kernel_rfl) (v := .int .i64 0) (by kernel_rfl) (by kernel_rfl) ?_
        clear hF; intro a hF
        refine L_nil ?_
        refine hK28 _ _ ?_
        refine wp_block ?_
        refine loopX (τ := Nat) (fun (i : Nat) a Wx => (i ≤ l.length) ∧ Fr 87 a [(0, .slice p l.length cap), (5, .slice p1 l.length cap1), (60, .slice p l.length cap), (61, .int .i64 ((l.length : Int))), (62, .int .i64 ((i : Int)))] ∧ Own W noX [rowL keyL 2 23 q6 qc2 (l.foldl (insL cmpK) []), rowL keyL 2 23 q5 qc1 (l.foldl (insL cmpK) []), rowL keyL 2 23 p1 cap1 l] Wx) (fun (i : Nat) => l.length - i) (0) ⟨Nat.zero_le _, ?_, ?_⟩ ?_
        · exact hF.restrict ⟨(by kernel_rfl), (by kernel_rfl), (by kernel_rfl), (by kernel_rfl), (congrArg some (by first | rfl | exact congrArg (Value.int _) (by omega) | simp)), trivial⟩
        · exact hO.sub (.cons_cons _ (.cons_cons _ (.cons_cons _ (List.nil_sublist _))))
        clear hF hO; rintro i a Wl3 ⟨hI, hF, hO⟩ KhK_3 hK_3
        try dsimp only at hI
        refine wp_seq_k fun K29 hK29 => ?_
        refine wp_region_lit ?_
        refine L_val hF (by kernel_rfl) (by kernel_rfl) (v := .bool (decide ((i : Int) < (l.length : Int)))) (by kernel_rfl) (by kernel_rfl) ?_
        clear hF; intro a hF
        refine L_nil ?_
        refine hK29 _ _ ?_
        refine wp_seq_k fun K30 hK30 => ?_
        by_cases q8 : (i : Int) < (l.length : Int)
        ·
          replace hF := hF.know (d := 63) (v' := .bool true) (by kernel_rfl) (congrArg Value.bool (decide_eq_true q8))
          refine cond_t hF (by kernel_rfl) (by kernel_rfl) ?_
          refine wp_skip ?_
          refine hK30 _ _ ?_
          refine wp_seq_k fun K31 hK31 => ?_
          refine wp_block ?_
          refine wp_seq_k fun K32 hK32 => ?_
          refine wp_region_lit ?_
          refine L_val hF (by kernel_rfl) (by kernel_rfl) (v := .int .i64 ((i : Int))) (by kernel_rfl) (by kernel_rfl) ?_
          clear hF; intro a hF
          refine L_val hF (by kernel_rfl) (by kernel_rfl) (v := .pointer (some ⟨(ab p), ao p + i * 2, none⟩)) (x_idxAddrS (p := p) (len := l.length) (cap := cap) (elem := 23) (kd := .i64) (k := 2) (i := (i : Int)) rfl (by kernel_rfl) (by kernel_rfl) (by kernel_rfl) (by kernel_rfl) (by omega) (by omega) (SlAt.ne (k := 2) (hl.own hO) (fun _ => rfl) (by decide) (by (first | omega | (simp only [List.length_set, List.length_take, List.length_drop, List.length_append, List.length_cons, List.length_nil]; done) | (simp only [List.length_set, List.length_take, List.length_drop, List.length_append, List.length_cons, List.length_nil]; omega) | (simp only [List.length_set, List.length_take, List.length_drop, List.length_append, List.length_cons, List.length_nil] at *; omega)) : i < l.length))) (by kernel_rfl) ?_
          clear hF; intro a hF
          refine L_val hF (by kernel_rfl) (by kernel_rfl) (v := keyV (nth l i)) (x_load (p := .pointer (some ⟨(ab p), ao p + i * 2, none⟩)) rfl (by kernel_rfl) (run_loadEl (k := 2) (by kernel_rfl) (by kernel_rfl) (hl.own hO) (fun _ => rfl) (by (first | omega | (simp only [List.length_set, List.length_take, List.length_drop, List.length_append, List.length_cons, List.length_nil]; done) | (simp only [List.length_set, List.length_take, List.length_drop, List.length_append, List.length_cons, List.length_nil]; omega) | (simp only [List.length_set, List.length_take, List.length_drop, List.length_append, List.length_cons, List.length_nil] at *; omega))) rfl)) (by kernel_rfl) ?_
          clear hF; intro a hF
          refine L_new hF hO (by kernel_rfl) (by kernel_rfl) (vf := fun b => .pointer (some ⟨b, 0, none⟩)) (ob := .cells #[.string (⟨#[]⟩ : ByteArray), .string (⟨#[]⟩ : ByteArray)] 23) (by kernel_rfl) (by kernel_rfl) ?_
          clear hF hO; intro b3 W8 a hO hF
          refine L_val hF (by kernel_rfl) (by kernel_rfl) (v := .int .i64 ((i : Int))) (by kernel_rfl) (by kernel_rfl) ?_
          clear hF; intro a hF
          obtain ⟨W9, hst, hO1⟩ := run_storeAt (P := Tryd.prog) (k := 2) (T := 23) (off := 0) (v := keyV (nth l i)) (cs := #[.string (⟨#[]⟩ : ByteArray), .string (⟨#[]⟩ : ByteArray)]) (cs' := #[.string ((nth l i).space), .string ((nth l i).name)]) hO (by kernel_rfl) (by kernel_rfl) (by kernel_rfl) (Nat.le_of_ble_eq_true (by kernel_rfl)) (by kernel_rfl) (.head _)
          refine L_skip hF (by kernel_rfl) (by kernel_rfl) (x_store (p := .pointer (some ⟨b3, 0, none⟩)) (v := keyV (nth l i)) rfl (by kernel_rfl) (by kernel_rfl) hst) (by kernel_rfl) ?_
          clear hst hF; intro a hF; replace hO := hO1; clear hO1
          refine L_nil ?_
          refine hK32 _ _ ?_
          refine wp_seq_k fun K33 hK33 => ?_
          refine A_start (fun Wx => Own W noX [.blk b3 (.cells #[.string ((nth l i).space), .string ((nth l i).name)] 23 (0, 0)), rowL keyL 2 23 q6 qc2 (l.foldl (insL cmpK) []), rowL keyL 2 23 q5 qc1 (l.foldl (insL cmpK) []), rowL keyL 2 23 p1 cap1 l] Wx) (by kernel_rfl) ?_
          replace hO := hO.drewN 1
          generalize hWd : ({ W9 with drawn := W9.drawn + 1 } : World) = W9_d at hO ⊢; clear hWd
          refine A_take (i := 0) (listed' := #[true, false, false, false, false, false, false, false, false, false, false, false, false, false, false, false, false, false, false]) rfl (by kernel_rfl) (by kernel_rfl) (by kernel_rfl) (by kernel_rfl) hF (by kernel_rfl) (by kernel_rfl) (v := .slice p1 l.length cap1) (fun Wx _ => by kernel_rfl) (by kernel_rfl) (hO.sub (.cons_cons _ (.cons_cons _ (.cons_cons _ (.cons_cons _ (List.nil_sublist _)))))) ?_
          clear hF; intro a hF
          refine A_take (i := 1) (listed' := #[true, true, false, false, false, false, false, false, false, false, false, false, false, false, false, false, false, false, false]) rfl (by kernel_rfl) (by kernel_rfl) (by kernel_rfl) (by kernel_rfl) hF (by kernel_rfl) (by kernel_rfl) (v := .int .i64 ((i : Int))) (fun Wx _ => by kernel_rfl) (by kernel_rfl) (hO.sub (.cons_cons _ (.cons_cons _ (.cons_cons _ (.cons_cons _ (List.nil_sublist _)))))) ?_
          clear hF; intro a hF
          refine A_take (i := 2) (listed' := #[true, true, true, false, false, false, false, false, false, false, false, false, false, false, false, false, false, false, false]) rfl (by kernel_rfl) (by kernel_rfl) (by kernel_rfl) (by kernel_rfl) hF (by kernel_rfl) (by kernel_rfl) (v := .pointer (some ⟨(ab p1), ao p1 + i * 2, none⟩)) (fun Wx _ => (x_idxAddrS (p := p1) (len := l.length) (cap := cap1) (elem := 23) (kd := .i64) (k := 2) (i := (i : Int)) rfl (by kernel_rfl) (by kernel_rfl) (by kernel_rfl) (by kernel_rfl) (by omega) (by omega) (SlAt.ne (k := 2) (hO.row (List.mem_cons_of_mem _ (List.mem_cons_of_mem _ (List.mem_cons_of_mem _ List.mem_cons_self)))) (fun _ => rfl) (by decide) (by (first | omega | (simp only [List.length_set, List.length_take, List.length_drop, List.length_append, List.length_cons, List.length_nil]; done) | (simp only [List.length_set, List.length_take, List.length_drop, List.length_append, List.length_cons, List.length_nil]; omega) | (simp only [List.length_set, List.length_take, List.length_drop, List.length_append, List.length_cons, List.length_nil] at *; omega)) : i < l.length)))) (by kernel_rfl) (hO.sub (.cons_cons _ (.cons_cons _ (.cons_cons _ (.cons_cons _ (List.nil_sublist _)))))) ?_
          clear hF; intro a hF
          refine A_take (i := 3) (listed' := #[true, true, true, true, false, false, false, false, false, false, false, false, false, false, false, false, false, false, false]) rfl (by kernel_rfl) (by kernel_rfl) (by kernel_rfl) (by kernel_rfl) hF (by kernel_rfl) (by kernel_rfl) (v := keyV (nth l i)) (fun Wx hO => x_load (p := .pointer (some ⟨(ab p1), ao p1 + i * 2, none⟩)) rfl (by kernel_rfl) (run_loadEl (k := 2) (by kernel_rfl) (by kernel_rfl) (hO.row (List.mem_cons_of_mem _ (List.mem_cons_of_mem _ (List.mem_cons_of_mem _ List.mem_cons_self)))) (fun _ => rfl) (by (first | omega | (simp only [List.length_set, List.length_take, List.length_drop, List.length_append, List.length_cons, List.length_nil]; done) | (simp only [List.length_set, List.length_take, List.length_drop, List.length_append, List.length_cons, List.length_nil]; omega) | (simp only [List.length_set, List.length_take, List.length_drop, List.length_append, List.length_cons, List.length_nil] at *; omega))) rfl)) (by kernel_rfl) (hO.sub (.cons_cons _ (.cons_cons _ (.cons_cons _ (.cons_cons _ (List.nil_sublist _)))))) ?_
          clear hF; intro a hF
          refine A_take (i := 4) (listed' := #[true, true, true, true, true, false, false, false, false, false, false, false, false, false, false, false, false, false, false]) rfl (by kernel_rfl) (by kernel_rfl) (by kernel_rfl) (by kernel_rfl) hF (by kernel_rfl) (by kernel_rfl) (v := .agg #[.string ((nth l i).space), .string ((nth l i).name)]) (fun Wx hO => x_load (p := .pointer (some ⟨b3, 0, none⟩)) rfl (by kernel_rfl) (run_loadA (k := 2) (by kernel_rfl) (by kernel_rfl) (hO.blk List.mem_cons_self) (by kernel_rfl) (by kernel_rfl))) (by kernel_rfl) (hO.sub (.cons_cons _ (.cons_cons _ (.cons_cons _ (.cons_cons _ (List.nil_sublist _)))))) ?_
          clear hF; intro a hF
          refine A_take (i := 5) (listed' := #[true, true, true, true, true, true, false, false, false, false, false, false, false, false, false, false, false, false, false]) rfl (by kernel_rfl) (by kernel_rfl) (by kernel_rfl) (by kernel_rfl) hF (by kernel_rfl) (by kernel_rfl) (v := .bool false) (fun Wx _ => (x_bool (x := !(decide ((nth l i) = (nth l i)))) (notF (decide_eq_true rfl)) (x_neKey (a := (nth l i)) (b := (nth l i)) rfl (by kernel_rfl) (by kernel_rfl)))) (by kernel_rfl) (hO.sub (.cons_cons _ (.cons_cons _ (.cons_cons _ (.cons_cons _ (List.nil_sublist _)))))) ?_
          clear hF; intro a hF
          refine A_take (i := 6) (listed' := #[true, true, true, true, true, true, true, false, false, false, false, false, false, false, false, false, false, false, false]) rfl (by kernel_rfl) (by kernel_rfl) (by kernel_rfl) (by kernel_rfl) hF (by kernel_rfl) (by kernel_rfl) (v := .bool false) (fun Wx _ => by kernel_rfl) (by kernel_rfl) (hO.sub (.cons_cons _ (.cons_cons _ (.cons_cons _ (.cons_cons _ (List.nil_sublist _)))))) ?_
          clear hF; intro a hF
          refine A_take (i := 7) (listed' := #[true, true, true, true, true, true, true, true, false, false, false, false, false, false, false, false, false, false, false]) rfl (by kernel_rfl) (by kernel_rfl) (by kernel_rfl) (by kernel_rfl) hF (by kernel_rfl) (by kernel_rfl) (v := .agg #[.string ((nth l i).space), .string ((nth l i).name)]) (fun Wx hO => x_load (p := .pointer (some ⟨b3, 0, none⟩)) rfl (by kernel_rfl) (run_loadA (k := 2) (by kernel_rfl) (by kernel_rfl) (hO.blk List.mem_cons_self) (by kernel_rfl) (by kernel_rfl))) (by kernel_rfl) (hO.sub (.cons_cons _ (.cons_cons _ (.cons_cons _ (.cons_cons _ (List.nil_sublist _)))))) ?_
          clear hF; intro a hF
          refine A_take (i := 8) (listed' := #[true, true, true, true, true, true, true, true, true, false, false, false, false, false, false, false, false, false, false]) rfl (by kernel_rfl) (by kernel_rfl) (by kernel_rfl) (by kernel_rfl) hF (by kernel_rfl) (by kernel_rfl) (v := .slice p l.length cap) (fun Wx _ => by kernel_rfl) (by kernel_rfl) (hO.sub (.cons_cons _ (.cons_cons _ (.cons_cons _ (.cons_cons _ (List.nil_sublist _)))))) ?_
          clear hF; intro a hF
          refine A_take (i := 9) (listed' := #[true, true, true, true, true, true, true, true, true, true, false, false, false, false, false, false, false, false, false]) rfl (by kernel_rfl) (by kernel_rfl) (by kernel_rfl) (by kernel_rfl) hF (by kernel_rfl) (by kernel_rfl) (v := .pointer (some ⟨(ab p), ao p + 0 * 2, none⟩)) (fun Wx _ => (x_idxAddrS (p := p) (len := l.length) (cap := cap) (elem := 23) (kd := .i64) (k := 2) (i := 0) rfl (by kernel_rfl) (by kernel_rfl) (by kernel_rfl) (by kernel_rfl) (by omega) (by omega) (SlAt.ne (k := 2) (hl.own hO) (fun _ => rfl) (by decide) (by (first | omega | (simp only [List.length_set, List.length_take, List.length_drop, List.length_append, List.length_cons, List.length_nil]; done) | (simp only [List.length_set, List.length_take, List.length_drop, List.length_append, List.length_cons, List.length_nil]; omega) | (simp only [List.length_set, List.length_take, List.length_drop, List.length_append, List.length_cons, List.length_nil] at *; omega)) : 0 < l.length)))) (by kernel_rfl) (hO.sub (.cons_cons _ (.cons_cons _ (.cons_cons _ (.cons_cons _ (List.nil_sublist _)))))) ?_
          clear hF; intro a hF
          refine A_take (i := 10) (listed' := #[true, true, true, true, true, true, true, true, true, true, true, false, false, false, false, false, false, false, false]) rfl (by kernel_rfl) (by kernel_rfl) (by kernel_rfl) (by kernel_rfl) hF (by kernel_rfl) (by kernel_rfl) (v := keyV (nth l 0)) (fun Wx hO => x_load (p := .pointer (some ⟨(ab p), ao p + 0 * 2, none⟩)) rfl (by kernel_rfl) (run_loadEl (k := 2) (by kernel_rfl) (by kernel_rfl) (hl.own hO) (fun _ => rfl) (by (first | omega | (simp only [List.length_set, List.length_take, List.length_drop, List.length_append, List.length_cons, List.length_nil]; done) | (simp only [List.length_set, List.length_take, List.length_drop, List.length_append, List.length_cons, List.length_nil]; omega) | (simp only [List.length_set, List.length_take, List.length_drop, List.length_append, List.length_cons, List.length_nil] at *; omega))) rfl)) (by kernel_rfl) (hO.sub (.cons_cons _ (.cons_cons _ (.cons_cons _ (.cons_cons _ (List.nil_sublist _)))))) ?_
          clear hF; intro a hF
          refine A_take (i := 12) (listed' := #[true, true, true, true, true, true, true, true, true, true, true, false, true, false, false, false, false, false, false]) rfl (by kernel_rfl) (by kernel_rfl) (by kernel_rfl) (by kernel_rfl) hF (by kernel_rfl) (by kernel_rfl) (v := .agg #[.string ((nth l i).space), .string ((nth l i).name)]) (fun Wx hO => x_load (p := .pointer (some ⟨b3, 0, none⟩)) rfl (by kernel_rfl) (run_loadA (k := 2) (by kernel_rfl) (by kernel_rfl) (hO.blk List.mem_cons_self) (by kernel_rfl) (by kernel_rfl))) (by kernel_rfl) (hO.sub (.cons_cons _ (.cons_cons _ (.cons_cons _ (.cons_cons _ (List.nil_sublist _)))))) ?_
          clear hF; intro a hF
          refine A_take (i := 13) (listed' := #[true, true, true, true, true, true, true, true, true, true, true, false, true, true, false, false, false, false, false]) rfl (by kernel_rfl) (by kernel_rfl) (by kernel_rfl) (by kernel_rfl) hF (by kernel_rfl) (by kernel_rfl) (v := .slice p l.length cap) (fun Wx _ => by kernel_rfl) (by kernel_rfl) (hO.sub (.cons_cons _ (.cons_cons _ (.cons_cons _ (.cons_cons _ (List.nil_sublist _)))))) ?_
          clear hF; intro a hF
          refine A_take (i := 14) (listed' := #[true, true, true, true, true, true, true, true, true, true, true, false, true, true, true, false, false, false, false]) rfl (by kernel_rfl) (by kernel_rfl) (by kernel_rfl) (by kernel_rfl) hF (by kernel_rfl) (by kernel_rfl) (v := .pointer (some ⟨(ab p), ao p + 0 * 2, none⟩)) (fun Wx _ => (x_idxAddrS (p := p) (len := l.length) (cap := cap) (elem := 23) (kd := .i64) (k := 2) (i := 0) rfl (by kernel_rfl) (by kernel_rfl) (by kernel_rfl) (by kernel_rfl) (by omega) (by omega) (SlAt.ne (k := 2) (hl.own hO) (fun _ => rfl) (by decide) (by (first | omega | (simp only [List.length_set, List.length_take, List.length_drop, List.length_append, List.length_cons, List.length_nil]; done) | (simp only [List.length_set, List.length_take, List.length_drop, List.length_append, List.length_cons, List.length_nil]; omega) | (simp only [List.length_set, List.length_take, List.length_drop, List.length_append, List.length_cons, List.length_nil] at *; omega)) : 0 < l.length)))) (by kernel_rfl) (hO.sub (.cons_cons _ (.cons_cons _ (.cons_cons _ (.cons_cons _ (List.nil_sublist _)))))) ?_
          clear hF; intro a hF
          refine A_take (i := 15) (listed' := #[true, true, true, true, true, true, true, true, true, true, true, false, true, true, true, true, false, false, false]) rfl (by kernel_rfl) (by kernel_rfl) (by kernel_rfl) (by kernel_rfl) hF (by kernel_rfl) (by kernel_rfl) (v := keyV (nth l 0)) (fun Wx hO => x_load (p := .pointer (some ⟨(ab p), ao p + 0 * 2, none⟩)) rfl (by kernel_rfl) (run_loadEl (k := 2) (by kernel_rfl) (by kernel_rfl) (hl.own hO) (fun _ => rfl) (by (first | omega | (simp only [List.length_set, List.length_take, List.length_drop, List.length_append, List.length_cons, List.length_nil]; done) | (simp only [List.length_set, List.length_take, List.length_drop, List.length_append, List.length_cons, List.length_nil]; omega) | (simp only [List.length_set, List.length_take, List.length_drop, List.length_append, List.length_cons, List.length_nil] at *; omega))) rfl)) (by kernel_rfl) (hO.sub (.cons_cons _ (.cons_cons _ (.cons_cons _ (.cons_cons _ (List.nil_sublist _)))))) ?_
          clear hF; intro a hF
          refine A_one (i := 11) (listed' := #[true, true, true, true, true, true, true, true, true, true, true, true, true, true, true, true, false, false, false]) (by kernel_rfl) rfl (by kernel_rfl) ?_
          refine OpK.call hF (by kernel_rfl) (by kernel_rfl) (by kernel_rfl) (by kernel_rfl) (names_Compare (nth l i) (nth l 0) W9_d) ?_
          clear hF; rintro _ W10 a ⟨rfl, hk⟩ hF
          replace hO := hO.call0 hk; clear hk
          refine ⟨hO.sub (.cons_cons _ (.cons_cons _ (.cons_cons _ (.cons_cons _ (List.nil_sublist _))))), ?_⟩
          refine A_one (i := 16) (listed' := #[true, true, true, true, true, true, true, true, true, true, true, true, true, true, true, true, true, false, false]) (by kernel_rfl) rfl (by kernel_rfl) ?_
          refine OpK.call hF (by kernel_rfl) (by kernel_rfl) (by kernel_rfl) (by kernel_rfl) (ref05_Compare (nth l i) (nth l 0) W10) ?_
          clear hF; rintro _ W11 a ⟨rfl, hk⟩ hF
          replace hO := hO.call0 hk; clear hk
          refine ⟨hO.sub (.cons_cons _ (.cons_cons _ (.cons_cons _ (.cons_cons _ (List.nil_sublist _))))), ?_⟩
          refine A_take (i := 17) (listed' := #[true, true, true, true, true, true, true, true, true, true, true, true, true, true, true, true, true, true, false]) rfl (by kernel_rfl) (by kernel_rfl) (by kernel_rfl) (by kernel_rfl) hF (by kernel_rfl) (by kernel_rfl) (v := .bool false) (fun Wx _ => (x_bool (x := !((cmpK (nth l i) (nth l 0)) == (cmpK (nth l i) (nth l 0)))) (notF (beq_self_eq_true _)) (by kernel_rfl))) (by kernel_rfl) (hO.sub (.cons_cons _ (.cons_cons _ (.cons_cons _ (.cons_cons _ (List.nil_sublist _)))))) ?_
          clear hF; intro a hF
          refine A_take (i := 18) (listed' := #[true, true, true, true, true, true, true, true, true, true, true, true, true, true, true, true, true, true, true]) rfl (by kernel_rfl) (by kernel_rfl) (by kernel_rfl) (by kernel_rfl) hF (by kernel_rfl) (by kernel_rfl) (v := .bool false) (fun Wx _ => by kernel_rfl) (by kernel_rfl) (hO.sub (.cons_cons _ (.cons_cons _ (.cons_cons _ (.cons_cons _ (List.nil_sublist _)))))) ?_
          clear hF; intro a hF
          refine A_done (by kernel_rfl) ?_
          refine hK33 _ _ ?_
          refine cond_f hF (by kernel_rfl) (by kernel_rfl) ?_
          refine wp_skip ?_
          refine block_normal ?_
          refine hK31 _ _ ?_
          refine wp_region_lit ?_
          refine L_val hF (by kernel_rfl) (by kernel_rfl) (v := .int .i64 ((i : Int) + 1)) (x_int (x := IntKind.i64.wrap ((i : Int) + 1)) (i64In (by omega) (by omega)) (by kernel_rfl)) (by kernel_rfl) ?_
          clear hF; intro a hF
          refine L_val hF (by kernel_rfl) (by kernel_rfl) (v := .int .i64 ((i : Int) + 1)) (by kernel_rfl) (by kernel_rfl) ?_
          clear hF; intro a hF
          refine L_nil ?_
          refine hK_3 (i + 1) _ _ (by first | omega | (dsimp only; omega)) ⟨by omega, ?_, ?_⟩
          · exact hF.restrict ⟨(by kernel_rfl), (by kernel_rfl), (by kernel_rfl), (by kernel_rfl), (congrArg some (by first | rfl | exact congrArg (Value.int _) (by omega) | simp)), trivial⟩
          · exact hO.sub (.cons _ (.cons_cons _ (.cons_cons _ (.cons_cons _ (List.nil_sublist _)))))
        ·
          replace hF := hF.know (d := 63) (v' := .bool false) (by kernel_rfl) (congrArg Value.bool (decide_eq_false q8))
          refine cond_f hF (by kernel_rfl) (by kernel_rfl) ?_
          refine wp_exit ?_
          refine then_exit ?_
          refine then_exit ?_
          refine inBlock_hit ?_
          refine hK27 _ _ ?_
          refine wp_seq_k fun K34 hK34 => ?_
          refine wp_region_lit ?_
          refine L_val hF (by kernel_rfl) (by kernel_rfl) (v := .bool true) (by kernel_rfl) (by kernel_rfl) ?_
          clear hF; intro a hF
          refine L_nil ?_
          refine hK34 _ _ ?_
          refine wp_ret ?_
          -- way 4: ¬ (l.length : Int) > 40; ¬ (i : Int) < (l.length : Int); ¬ (i : Int) < ((l.foldl (insL cmpK) []).length : Int); ¬ (i : Int) < (l.length : Int)
          refine ret1 hF (v := .bool true) rfl (resT (by kernel_rfl)) (by refine ⟨?_, hO.nil⟩; first | rfl | (simp [*]; done)) .ret (.inl rfl)

end Go.Proofs.YtkeialdhogfdjaaDoor
