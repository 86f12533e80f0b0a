import Derived.Test.YtkeialdhogfdjaaDoorNamesW
namespace Go.Proofs.YtkeialdhogfdjaaDoor
open Go Go.RowKit
set_option linter.unusedSimpArgs false
set_option linter.unusedVariables false
theorem names_Parse_some (I : List Nat) (ea : Nat → Addr) (m : Int) (s : ByteArray) (k : Key) (W : World) (hs : s.size ≤ 1000000) (hM : W.cell? ⟨18, 0, none⟩ = some (.int .i64 m)) (hE : Errs I ea W) (h5 : I.contains 5 = true) (hp : parseKey s = some k) :
    Ret Tryd.prog 6 #[.string s] W fun v W' => v = .tuple #[keyV k, .nilIface] ∧ Own W noX [] W' := (names_Parse I ea m s W hs hM hE h5).mono fun v W' h => ⟨by rw [h.1, hp]; rfl, h.2⟩
theorem names_Parse_none (I : List Nat) (ea : Nat → Addr) (m : Int) (s : ByteArray) (W : World) (hs : s.size ≤ 1000000) (hM : W.cell? ⟨18, 0, none⟩ = some (.int .i64 m)) (hE : Errs I ea W) (h5 : I.contains 5 = true) (hp : parseKey s = none) :
    Ret Tryd.prog 6 #[.string s] W fun v W' => v = .tuple #[keyV noKey, errV ea 5] ∧ Own W noX [] W' := (names_Parse I ea m s W hs hM hE h5).mono fun v W' h => ⟨by rw [h.1, hp]; rfl, h.2⟩
def webKey : Key := ⟨⟨#[97]⟩, ⟨#[119, 101, 98]⟩⟩
theorem web_parse : parseKey ⟨#[97, 47, 119, 101, 98]⟩ = some webKey := by decide
set_option maxRecDepth 20000 in
theorem law05_alive (I : List Nat) (ea : Nat → Addr) (m : Int) (W : World) (hM : W.cell? ⟨18, 0, none⟩ = some (.int .i64 m)) (hE : Errs I ea W) (h5 : I.contains 5 = true) : Ret Tryd.prog 5 #[] W fun v W' => v = .bool true ∧ Own W noX [] W' := by
  refine enter Tryd.func5 rfl (n := 14) rfl (by kernel_rfl) (E0 := []) (by kernel_rfl) ?_
  intro a hF; have hO := Own.start W noX
  refine wp_seq_k fun K1 hK1 => ?_
  refine wp_region_lit ?_
  refine L_val hF (by kernel_rfl) (by kernel_rfl) (v := .bool false) (by kernel_rfl) (by kernel_rfl) ?_
  clear hF; intro a hF
  refine L_nil ?_
  refine hK1 _ _ ?_
  refine wp_seq_k fun K2 hK2 => ?_
  refine wp_region_lit ?_
  refine L_call hF (by kernel_rfl) (by kernel_rfl) (by kernel_rfl) (by kernel_rfl) (names_Parse_some I ea m (⟨#[97, 47, 119, 101, 98]⟩ : ByteArray) webKey W (by decide) (hO.oldCell (lt_of_cell hM) (fun h => h) hM) (hE.own hO) h5 web_parse) ?_
  clear hF; rintro _ W1 a ⟨rfl, hk⟩ hF
  replace hO := hO.call0 hk; clear hk
  refine L_val hF (by kernel_rfl) (by kernel_rfl) (v := .tuple #[keyV webKey, .nilIface]) (by kernel_rfl) (by kernel_rfl) ?_
  clear hF; intro a hF
  refine L_val hF (by kernel_rfl) (by kernel_rfl) (v := keyV webKey) (by kernel_rfl) (by kernel_rfl) ?_
  clear hF; intro a hF
  refine L_val hF (by kernel_rfl) (by kernel_rfl) (v := .nilIface) (by kernel_rfl) (by kernel_rfl) ?_
  clear hF; intro a hF
  refine L_new hF hO (by kernel_rfl) (by kernel_rfl) (vf := fun b => .pointer (some ⟨b, 0, none⟩)) (ob := .cells #[.string (⟨#[]⟩ : ByteArray), .string (⟨#[]⟩ : ByteArray)] 23) (by kernel_rfl) (by kernel_rfl) ?_
  clear hF hO; intro b1 W2 a hO hF
  obtain ⟨W3, hst, hO1⟩ := run_storeAt (P := Tryd.prog) (k := 2) (T := 23) (off := 0) (v := keyV webKey) (cs := #[.string (⟨#[]⟩ : ByteArray), .string (⟨#[]⟩ : ByteArray)]) (cs' := #[.string webKey.space, .string webKey.name]) hO (by kernel_rfl) (by kernel_rfl) (by kernel_rfl) (Nat.le_of_ble_eq_true (by kernel_rfl)) (by kernel_rfl) (.head _)
  refine L_skip hF (by kernel_rfl) (by kernel_rfl) (x_store (p := .pointer (some ⟨b1, 0, none⟩)) (v := keyV webKey) rfl (by kernel_rfl) (by kernel_rfl) hst) (by kernel_rfl) ?_
  clear hst hF; intro a hF; replace hO := hO1; clear hO1
  refine L_val hF (by kernel_rfl) (by kernel_rfl) (v := .nilIface) (by kernel_rfl) (by kernel_rfl) ?_
  clear hF; intro a hF
  refine L_nil ?_
  refine hK2 _ _ ?_
  refine wp_seq_k fun K3 hK3 => ?_
  refine wp_region_lit ?_
  refine L_val hF (by kernel_rfl) (by kernel_rfl) (v := .nilIface) (by kernel_rfl) (by kernel_rfl) ?_
  clear hF; intro a hF
  refine L_val hF (by kernel_rfl) (by kernel_rfl) (v := .bool true) (by kernel_rfl) (by kernel_rfl) ?_
  clear hF; intro a hF
  refine L_val hF (by kernel_rfl) (by kernel_rfl) (v := .bool true) (by kernel_rfl) (by kernel_rfl) ?_
  clear hF; intro a hF
  refine L_val hF (by kernel_rfl) (by kernel_rfl) (v := .agg #[.string webKey.space, .string webKey.name]) (x_load (p := .pointer (some ⟨b1, 0, none⟩)) rfl (by kernel_rfl) (run_loadA (k := 2) (by kernel_rfl) (by kernel_rfl) (hO.blk List.mem_cons_self) (by kernel_rfl) (by kernel_rfl))) (by kernel_rfl) ?_
  clear hF; intro a hF
  refine L_val hF (by kernel_rfl) (by kernel_rfl) (v := .agg #[.string (⟨#[97]⟩ : ByteArray), .string (⟨#[119, 101, 98]⟩ : ByteArray)]) (by kernel_rfl) (by kernel_rfl) ?_
  clear hF; intro a hF
  refine L_val hF (by kernel_rfl) (by kernel_rfl) (v := .bool true) (x_bool (x := decide (webKey = webKey)) (decide_eq_true rfl) (x_eqKey (a := webKey) (b := webKey) rfl (by kernel_rfl) (by kernel_rfl))) (by kernel_rfl) ?_
  clear hF; intro a hF
  refine L_val hF (by kernel_rfl) (by kernel_rfl) (v := .bool true) (by kernel_rfl) (by kernel_rfl) ?_
  clear hF; intro a hF
  refine L_val hF (by kernel_rfl) (by kernel_rfl) (v := .bool true) (by kernel_rfl) (by kernel_rfl) ?_
  clear hF; intro a hF
  refine L_nil ?_
  refine hK3 _ _ ?_
  refine wp_ret ?_
  -- way 1: 
  refine ret1 hF (v := .bool true) rfl (resT (by kernel_rfl)) (by refine ⟨?_, hO.nil⟩; simp [*]) .ret (.inl rfl)

set_option maxRecDepth 20000 in
theorem law05_NamesKeys_sy (I : List Nat) (ea : Nat → Addr) (m : Int) (s : ByteArray) (k : Key) (k0 : Key) (W : World) (hM : W.cell? ⟨18, 0, none⟩ = some (.int .i64 m)) (hE : Errs I ea W) (h5 : I.contains 5 = true) (hI : I = errIs) (hp : parseKey s = some k0) (hk : keyB k = true) : Ret Tryd.prog 3 #[.string s, keyV k] W fun v W' => v = .bool true ∧ Own W noX [] W' := by
  refine enter Tryd.func3 rfl (n := 99) rfl (by kernel_rfl) (E0 := [(1, keyV k), (0, .string s)]) (by kernel_rfl) ?_
  intro a hF; have hO := Own.start W noX
  refine wp_seq_k fun K1 hK1 => ?_
  refine wp_region_lit ?_
  refine L_new hF hO (by kernel_rfl) (by kernel_rfl) (vf := fun b => .pointer (some ⟨b, 0, none⟩)) (ob := .cells #[.string k.space, .string k.name] 23) (by kernel_rfl) (by kernel_rfl) ?_
  clear hF hO; intro b1 W1 a hO hF
  refine L_val hF (by kernel_rfl) (by kernel_rfl) (v := .bool false) (by kernel_rfl) (by kernel_rfl) ?_
  clear hF; intro a hF
  refine L_nil ?_
  refine hK1 _ _ ?_
  refine wp_seq_k fun K2 hK2 => ?_
  refine wp_seq_k fun K3 hK3 => ?_
  refine wp_region_lit ?_
  refine L_call hF (by kernel_rfl) (by kernel_rfl) (by kernel_rfl) (by kernel_rfl) (law05_alive I ea m W1 (hO.oldCell (lt_of_cell hM) (fun h => h) hM) (hE.own hO) h5) ?_
  clear hF; rintro _ W2 a ⟨rfl, hk⟩ hF
  replace hO := hO.call0 hk; clear hk
  refine L_val hF (by kernel_rfl) (by kernel_rfl) (v := .bool false) (by kernel_rfl) (by kernel_rfl) ?_
  clear hF; intro a hF
  refine L_nil ?_
  refine hK3 _ _ ?_
  refine cond_f hF (by kernel_rfl) (by kernel_rfl) ?_
  refine wp_skip ?_
  refine hK2 _ _ ?_
  refine wp_seq_k fun K4 hK4 => ?_
  refine wp_seq_k fun K5 hK5 => ?_
  refine wp_region_lit ?_
  refine L_val hF (by kernel_rfl) (by kernel_rfl) (v := .string s) (by kernel_rfl) (by kernel_rfl) ?_
  clear hF; intro a hF
  refine L_val hF (by kernel_rfl) (by kernel_rfl) (v := .int .i64 ((s.size : Int))) (by kernel_rfl) (by kernel_rfl) ?_
  clear hF; intro a hF
  refine L_val hF (by kernel_rfl) (by kernel_rfl) (v := .bool (decide ((s.size : Int) > 100))) (by kernel_rfl) (by kernel_rfl) ?_
  clear hF; intro a hF
  refine L_val hF (by kernel_rfl) (by kernel_rfl) (v := .bool (decide ((s.size : Int) > 100))) (by kernel_rfl) (by kernel_rfl) ?_
  clear hF; intro a hF
  by_cases q1 : (s.size : Int) > 100
  ·
    replace hF := hF.know (d := 15) (v' := .bool true) (by kernel_rfl) (congrArg Value.bool (decide_eq_true q1))
    refine L_off hF (by kernel_rfl) (by kernel_rfl) ?_
    clear hF; intro a hF
    refine L_off hF (by kernel_rfl) (by kernel_rfl) ?_
    clear hF; intro a hF
    refine L_off hF (by kernel_rfl) (by kernel_rfl) ?_
    clear hF; intro a hF
    refine L_off hF (by kernel_rfl) (by kernel_rfl) ?_
    clear hF; intro a hF
    refine L_val hF (by kernel_rfl) (by kernel_rfl) (v := .bool true) (by kernel_rfl) (by kernel_rfl) ?_
    clear hF; intro a hF
    refine L_val hF (by kernel_rfl) (by kernel_rfl) (v := .bool true) (by kernel_rfl) (by kernel_rfl) ?_
    clear hF; intro a hF
    refine L_off hF (by kernel_rfl) (by kernel_rfl) ?_
    clear hF; intro a hF
    refine L_off hF (by kernel_rfl) (by kernel_rfl) ?_
    clear hF; intro a hF
    refine L_off hF (by kernel_rfl) (by kernel_rfl) ?_
    clear hF; intro a hF
    refine L_off hF (by kernel_rfl) (by kernel_rfl) ?_
    clear hF; intro a hF
    refine L_val hF (by kernel_rfl) (by kernel_rfl) (v := .bool true) (by kernel_rfl) (by kernel_rfl) ?_
    clear hF; intro a hF
    refine L_nil ?_
    refine hK5 _ _ ?_
    refine cond_t hF (by kernel_rfl) (by kernel_rfl) ?_
    refine wp_seq_k fun K6 hK6 => ?_
    refine wp_region_lit ?_
    refine L_val hF (by kernel_rfl) (by kernel_rfl) (v := .bool true) (by kernel_rfl) (by kernel_rfl) ?_
    clear hF; intro a hF
    refine L_nil ?_
    refine hK6 _ _ ?_
    refine wp_ret ?_
    refine then_ret ?_
    -- way 1: (s.size : Int) > 100
    refine ret1 hF (v := .bool true) rfl (resT (by kernel_rfl)) (by refine ⟨?_, hO.nil⟩; first | rfl | (simp [*]; done)) .ret (.inl rfl)
  ·
    replace hF := hF.know (d := 15) (v' := .bool false) (by kernel_rfl) (congrArg Value.bool (decide_eq_false q1))
    refine L_val hF (by kernel_rfl) (by kernel_rfl) (v := .pointer (some ⟨b1, 0, none⟩)) (by kernel_rfl) (by kernel_rfl) ?_
    clear hF; intro a hF
    refine L_val hF (by kernel_rfl) (by kernel_rfl) (v := .string k.space) (x_load (p := .pointer (some ⟨b1, 0, none⟩)) rfl (by kernel_rfl) (run_load1 (by kernel_rfl) ((hO.cell List.mem_cons_self).trans (by kernel_rfl)))) (by kernel_rfl) ?_
    clear hF; intro a hF
    refine L_val hF (by kernel_rfl) (by kernel_rfl) (v := .int .i64 ((k.space.size : Int))) (by kernel_rfl) (by kernel_rfl) ?_
    clear hF; intro a hF
    refine L_val hF (by kernel_rfl) (by kernel_rfl) (v := .bool (decide ((k.space.size : Int) > 100))) (by kernel_rfl) (by kernel_rfl) ?_
    clear hF; intro a hF
    refine L_val hF (by kernel_rfl) (by kernel_rfl) (v := .bool (decide ((k.space.size : Int) > 100))) (by kernel_rfl) (by kernel_rfl) ?_
    clear hF; intro a hF
    refine L_val hF (by kernel_rfl) (by kernel_rfl) (v := .bool (decide ((k.space.size : Int) > 100))) (by kernel_rfl) (by kernel_rfl) ?_
    clear hF; intro a hF
    by_cases q2 : (k.space.size : Int) > 100
    ·
      replace hF := hF.know (d := 21) (v' := .bool true) (by kernel_rfl) (congrArg Value.bool (decide_eq_true q2))
      refine L_off hF (by kernel_rfl) (by kernel_rfl) ?_
      clear hF; intro a hF
      refine L_off hF (by kernel_rfl) (by kernel_rfl) ?_
      clear hF; intro a hF
      refine L_off hF (by kernel_rfl) (by kernel_rfl) ?_
      clear hF; intro a hF
      refine L_off hF (by kernel_rfl) (by kernel_rfl) ?_
      clear hF; intro a hF
      refine L_val hF (by kernel_rfl) (by kernel_rfl) (v := .bool true) (by kernel_rfl) (by kernel_rfl) ?_
      clear hF; intro a hF
      refine L_nil ?_
      refine hK5 _ _ ?_
      refine cond_t hF (by kernel_rfl) (by kernel_rfl) ?_
      refine wp_seq_k fun K7 hK7 => ?_
      refine wp_region_lit ?_
      refine L_val hF (by kernel_rfl) (by kernel_rfl) (v := .bool true) (by kernel_rfl) (by kernel_rfl) ?_
      clear hF; intro a hF
      refine L_nil ?_
      refine hK7 _ _ ?_
      refine wp_ret ?_
      refine then_ret ?_
      -- way 2: ¬ (s.size : Int) > 100; (k.space.size : Int) > 100
      refine ret1 hF (v := .bool true) rfl (resT (by kernel_rfl)) (by refine ⟨?_, hO.nil⟩; first | rfl | (simp [*]; done)) .ret (.inl rfl)
    ·
      replace hF := hF.know (d := 21) (v' := .bool false) (by kernel_rfl) (congrArg Value.bool (decide_eq_false q2))
      refine L_val hF (by kernel_rfl) (by kernel_rfl) (v := .pointer (some ⟨b1, 1, none⟩)) (by kernel_rfl) (by kernel_rfl) ?_
      clear hF; intro a hF
      refine L_val hF (by kernel_rfl) (by kernel_rfl) (v := .string k.name) (x_load (p := .pointer (some ⟨b1, 1, none⟩)) rfl (by kernel_rfl) (run_load1 (by kernel_rfl) ((hO.cell List.mem_cons_self).trans (by kernel_rfl)))) (by kernel_rfl) ?_
      clear hF; intro a hF
      refine L_val hF (by kernel_rfl) (by kernel_rfl) (v := .int .i64 ((k.name.size : Int))) (by kernel_rfl) (by kernel_rfl) ?_
      clear hF; intro a hF
      refine L_val hF (by kernel_rfl) (by kernel_rfl) (v := .bool (decide ((k.name.size : Int) > 100))) (by kernel_rfl) (by kernel_rfl) ?_
      clear hF; intro a hF
      refine L_val hF (by kernel_rfl) (by kernel_rfl) (v := .bool (decide ((k.name.size : Int) > 100))) (by kernel_rfl) (by kernel_rfl) ?_
      clear hF; intro a hF
      refine L_nil ?_
      refine hK5 _ _ ?_
      by_cases q3 : (k.name.size : Int) > 100
      ·
        replace hF := hF.know (d := 26) (v' := .bool true) (by kernel_rfl) (congrArg Value.bool (decide_eq_true q3))
        refine cond_t hF (by kernel_rfl) (by kernel_rfl) ?_
        refine wp_seq_k fun K8 hK8 => ?_
        refine wp_region_lit ?_
        refine L_val hF (by kernel_rfl) (by kernel_rfl) (v := .bool true) (by kernel_rfl) (by kernel_rfl) ?_
        clear hF; intro a hF
        refine L_nil ?_
        refine hK8 _ _ ?_
        refine wp_ret ?_
        refine then_ret ?_
        -- way 3: ¬ (s.size : Int) > 100; ¬ (k.space.size : Int) > 100; (k.name.size : Int) > 100
        refine ret1 hF (v := .bool true) rfl (resT (by kernel_rfl)) (by refine ⟨?_, hO.nil⟩; first | rfl | (simp [*]; done)) .ret (.inl rfl)
      ·
        replace hF := hF.know (d := 26) (v' := .bool false) (by kernel_rfl) (congrArg Value.bool (decide_eq_false q3))
        refine cond_f hF (by kernel_rfl) (by kernel_rfl) ?_
        refine wp_skip ?_
        refine hK4 _ _ ?_
        refine wp_seq_k fun K9 hK9 => ?_
        refine wp_region_lit ?_
        refine L_val hF (by kernel_rfl) (by kernel_rfl) (v := .string s) (by kernel_rfl) (by kernel_rfl) ?_
        clear hF; intro a hF
        refine L_call hF (by kernel_rfl) (by kernel_rfl) (by kernel_rfl) (by kernel_rfl) (names_Parse_some I ea m s k0 W2 (by (first | omega | (simp only [ByteArray.size_append, sz, List.length_cons, List.length_nil]; omega))) (hO.oldCell (lt_of_cell hM) (fun h => h) hM) (hE.own hO) h5 hp) ?_
        clear hF; rintro _ W3 a ⟨rfl, hk⟩ hF
        replace hO := hO.call0 hk; clear hk
        refine L_val hF (by kernel_rfl) (by kernel_rfl) (v := .tuple #[keyV k0, .nilIface]) (by kernel_rfl) (by kernel_rfl) ?_
        clear hF; intro a hF
        refine L_val hF (by kernel_rfl) (by kernel_rfl) (v := keyV k0) (by kernel_rfl) (by kernel_rfl) ?_
        clear hF; intro a hF
        refine L_val hF (by kernel_rfl) (by kernel_rfl) (v := .nilIface) (by kernel_rfl) (by kernel_rfl) ?_
        clear hF; intro a hF
        refine L_new hF hO (by kernel_rfl) (by kernel_rfl) (vf := fun b => .pointer (some ⟨b, 0, none⟩)) (ob := .cells #[.string (⟨#[]⟩ : ByteArray), .string (⟨#[]⟩ : ByteArray)] 23) (by kernel_rfl) (by kernel_rfl) ?_
        clear hF hO; intro b2 W4 a hO hF
        obtain ⟨W5, hst, hO1⟩ := run_storeAt (P := Tryd.prog) (k := 2) (T := 23) (off := 0) (v := keyV k0) (cs := #[.string (⟨#[]⟩ : ByteArray), .string (⟨#[]⟩ : ByteArray)]) (cs' := #[.string k0.space, .string k0.name]) hO (by kernel_rfl) (by kernel_rfl) (by kernel_rfl) (Nat.le_of_ble_eq_true (by kernel_rfl)) (by kernel_rfl) (.head _)
        refine L_skip hF (by kernel_rfl) (by kernel_rfl) (x_store (p := .pointer (some ⟨b2, 0, none⟩)) (v := keyV k0) rfl (by kernel_rfl) (by kernel_rfl) hst) (by kernel_rfl) ?_
        clear hst hF; intro a hF; replace hO := hO1; clear hO1
        refine L_val hF (by kernel_rfl) (by kernel_rfl) (v := .nilIface) (by kernel_rfl) (by kernel_rfl) ?_
        clear hF; intro a hF
        refine L_nil ?_
        refine hK9 _ _ ?_
        refine wp_seq_k fun K10 hK10 => ?_
        refine wp_region_lit ?_
        refine L_val hF (by kernel_rfl) (by kernel_rfl) (v := .string s) (by kernel_rfl) (by kernel_rfl) ?_
        clear hF; intro a hF
        refine L_call hF (by kernel_rfl) (by kernel_rfl) (by kernel_rfl) (by kernel_rfl) ((ref05_Parse s W5 (by omega)).mono fun v W' h => (⟨by rw [h.1, hp]; rfl, h.2⟩ : v = .tuple #[keyV k0, .bool true] ∧ Own W5 noX [] W')) ?_
        clear hF; rintro _ W6 a ⟨rfl, hk⟩ hF
        replace hO := hO.call0 hk; clear hk
        refine L_val hF (by kernel_rfl) (by kernel_rfl) (v := .tuple #[keyV k0, .bool true]) (by kernel_rfl) (by kernel_rfl) ?_
        clear hF; intro a hF
        refine L_val hF (by kernel_rfl) (by kernel_rfl) (v := keyV k0) (by kernel_rfl) (by kernel_rfl) ?_
        clear hF; intro a hF
        refine L_val hF (by kernel_rfl) (by kernel_rfl) (v := .bool true) (by kernel_rfl) (by kernel_rfl) ?_
        clear hF; intro a hF
        refine L_new hF hO (by kernel_rfl) (by kernel_rfl) (vf := fun b => .pointer (some ⟨b, 0, none⟩)) (ob := .cells #[.string (⟨#[]⟩ : ByteArray), .string (⟨#[]⟩ : ByteArray)] 23) (by kernel_rfl) (by kernel_rfl) ?_
        clear hF hO; intro b3 W7 a hO hF
        obtain ⟨W8, hst, hO1⟩ := run_storeAt (P := Tryd.prog) (k := 2) (T := 23) (off := 0) (v := keyV k0) (cs := #[.string (⟨#[]⟩ : ByteArray), .string (⟨#[]⟩ : ByteArray)]) (cs' := #[.string k0.space, .string k0.name]) hO (by kernel_rfl) (by kernel_rfl) (by kernel_rfl) (Nat.le_of_ble_eq_true (by kernel_rfl)) (by kernel_rfl) (.head _)
        refine L_skip hF (by kernel_rfl) (by kernel_rfl) (x_store (p := .pointer (some ⟨b3, 0, none⟩)) (v := keyV k0) rfl (by kernel_rfl) (by kernel_rfl) hst) (by kernel_rfl) ?_
        clear hst hF; intro a hF; replace hO := hO1; clear hO1
        refine L_val hF (by kernel_rfl) (by kernel_rfl) (v := .bool true) (by kernel_rfl) (by kernel_rfl) ?_
        clear hF; intro a hF
        refine L_nil ?_
        refine hK10 _ _ ?_
        refine wp_seq_k fun K11 hK11 => ?_
        refine wp_seq_k fun K12 hK12 => ?_
        refine A_start (fun Wx => Own W noX [.blk b3 (.cells #[.string k0.space, .string k0.name] 23 (0, 0)), .blk b2 (.cells #[.string k0.space, .string k0.name] 23 (0, 0)), .blk b1 (.cells #[.string k.space, .string k.name] 23 (0, 0))] Wx) (by kernel_rfl) ?_
        replace hO := hO.drewN 1
        generalize hWd : ({ W8 with drawn := W8.drawn + 1 } : World) = W8_d at hO ⊢; clear hWd
        refine A_take (i := 0) (listed' := #[true, false, false, false, false, false, false, false, false, false, false, false, false, false, false, false, false, false, false, false, false, false, false, false, false, false, false, false, false, false, false, false]) rfl (by kernel_rfl) (by kernel_rfl) (by kernel_rfl) (by kernel_rfl) hF (by kernel_rfl) (by kernel_rfl) (v := .string s) (fun Wx _ => by kernel_rfl) (by kernel_rfl) (hO.sub (.cons_cons _ (.cons_cons _ (.cons_cons _ (List.nil_sublist _))))) ?_
        clear hF; intro a hF
        refine A_take (i := 2) (listed' := #[true, false, true, false, false, false, false, false, false, false, false, false, false, false, false, false, false, false, false, false, false, false, false, false, false, false, false, false, false, false, false, false]) rfl (by kernel_rfl) (by kernel_rfl) (by kernel_rfl) (by kernel_rfl) hF (by kernel_rfl) (by kernel_rfl) (v := .string s) (fun Wx _ => by kernel_rfl) (by kernel_rfl) (hO.sub (.cons_cons _ (.cons_cons _ (.cons_cons _ (List.nil_sublist _))))) ?_
        clear hF; intro a hF
        refine A_one (i := 1) (listed' := #[true, true, true, false, false, false, false, false, false, false, false, false, false, false, false, false, false, false, false, false, false, false, false, false, false, false, false, false, false, false, false, false]) (by kernel_rfl) rfl (by kernel_rfl) ?_
        refine OpK.call hF (by kernel_rfl) (by kernel_rfl) (by kernel_rfl) (by kernel_rfl) (names_Label s W8_d (by omega)) ?_
        clear hF; rintro _ W9 a ⟨rfl, hk⟩ hF
        replace hO := hO.call0 hk; clear hk
        refine ⟨hO.sub (.cons_cons _ (.cons_cons _ (.cons_cons _ (List.nil_sublist _)))), ?_⟩
        refine A_one (i := 3) (listed' := #[true, true, true, true, false, false, false, false, false, false, false, false, false, false, false, false, false, false, false, false, false, false, false, false, false, false, false, false, false, false, false, false]) (by kernel_rfl) rfl (by kernel_rfl) ?_
        refine OpK.call hF (by kernel_rfl) (by kernel_rfl) (by kernel_rfl) (by kernel_rfl) (ref05_Label s W9 (by omega)) ?_
        clear hF; rintro _ W10 a ⟨rfl, hk⟩ hF
        replace hO := hO.call0 hk; clear hk
        refine ⟨hO.sub (.cons_cons _ (.cons_cons _ (.cons_cons _ (List.nil_sublist _)))), ?_⟩
        refine A_take (i := 4) (listed' := #[true, true, true, true, true, false, false, false, false, false, false, false, false, false, false, false, false, false, false, false, false, false, false, false, false, false, false, false, false, false, false, false]) rfl (by kernel_rfl) (by kernel_rfl) (by kernel_rfl) (by kernel_rfl) hF (by kernel_rfl) (by kernel_rfl) (v := .bool false) (fun Wx _ => (x_bool (x := !((labelB s) == (labelB s))) (notF (beq_self_eq_true _)) (by kernel_rfl))) (by kernel_rfl) (hO.sub (.cons_cons _ (.cons_cons _ (.cons_cons _ (List.nil_sublist _))))) ?_
        clear hF; intro a hF
        refine A_take (i := 5) (listed' := #[true, true, true, true, true, true, false, false, false, false, false, false, false, false, false, false, false, false, false, false, false, false, false, false, false, false, false, false, false, false, false, false]) rfl (by kernel_rfl) (by kernel_rfl) (by kernel_rfl) (by kernel_rfl) hF (by kernel_rfl) (by kernel_rfl) (v := .bool false) (fun Wx _ => by kernel_rfl) (by kernel_rfl) (hO.sub (.cons_cons _ (.cons_cons _ (.cons_cons _ (List.nil_sublist _))))) ?_
        clear hF; intro a hF
        refine A_take (i := 6) (listed' := #[true, true, true, true, true, true, true, false, false, false, false, false, false, false, false, false, false, false, false, false, false, false, false, false, false, false, false, false, false, false, false, false]) rfl (by kernel_rfl) (by kernel_rfl) (by kernel_rfl) (by kernel_rfl) hF (by kernel_rfl) (by kernel_rfl) (v := .agg #[.string k.space, .string k.name]) (fun Wx hO => x_load (p := .pointer (some ⟨b1, 0, none⟩)) rfl (by kernel_rfl) (run_loadA (k := 2) (by kernel_rfl) (by kernel_rfl) (hO.blk (List.mem_cons_of_mem _ (List.mem_cons_of_mem _ List.mem_cons_self))) (by kernel_rfl) (by kernel_rfl))) (by kernel_rfl) (hO.sub (.cons_cons _ (.cons_cons _ (.cons_cons _ (List.nil_sublist _))))) ?_
        clear hF; intro a hF
        refine A_take (i := 8) (listed' := #[true, true, true, true, true, true, true, false, true, false, false, false, false, false, false, false, false, false, false, false, false, false, false, false, false, false, false, false, false, false, false, false]) rfl (by kernel_rfl) (by kernel_rfl) (by kernel_rfl) (by kernel_rfl) hF (by kernel_rfl) (by kernel_rfl) (v := .agg #[.string k.space, .string k.name]) (fun Wx hO => x_load (p := .pointer (some ⟨b1, 0, none⟩)) rfl (by kernel_rfl) (run_loadA (k := 2) (by kernel_rfl) (by kernel_rfl) (hO.blk (List.mem_cons_of_mem _ (List.mem_cons_of_mem _ List.mem_cons_self))) (by kernel_rfl) (by kernel_rfl))) (by kernel_rfl) (hO.sub (.cons_cons _ (.cons_cons _ (.cons_cons _ (List.nil_sublist _))))) ?_
        clear hF; intro a hF
        refine A_one (i := 7) (listed' := #[true, true, true, true, true, true, true, true, true, false, false, false, false, false, false, false, false, false, false, false, false, false, false, false, false, false, false, false, false, false, false, false]) (by kernel_rfl) rfl (by kernel_rfl) ?_
        refine OpK.call hF (by kernel_rfl) (by kernel_rfl) (by kernel_rfl) (by kernel_rfl) ((names_Key k W10 (by omega) (by omega)).mono fun v W' h => (⟨by rw [h.1, hk], h.2⟩ : v = .bool true ∧ Own W10 noX [] W')) ?_
        clear hF; rintro _ W11 a ⟨rfl, hk⟩ hF
        replace hO := hO.call0 hk; clear hk
        refine ⟨hO.sub (.cons_cons _ (.cons_cons _ (.cons_cons _ (List.nil_sublist _)))), ?_⟩
        refine A_one (i := 9) (listed' := #[true, true, true, true, true, true, true, true, true, true, false, false, false, false, false, false, false, false, false, false, false, false, false, false, false, false, false, false, false, false, false, false]) (by kernel_rfl) rfl (by kernel_rfl) ?_
        refine OpK.call hF (by kernel_rfl) (by kernel_rfl) (by kernel_rfl) (by kernel_rfl) ((ref05_Key k W11 (by omega) (by omega)).mono fun v W' h => (⟨by rw [h.1, hk], h.2⟩ : v = .bool true ∧ Own W11 noX [] W')) ?_
        clear hF; rintro _ W12 a ⟨rfl, hk⟩ hF
        replace hO := hO.call0 hk; clear hk
        refine ⟨hO.sub (.cons_cons _ (.cons_cons _ (.cons_cons _ (List.nil_sublist _)))), ?_⟩
        refine A_take (i := 10) (listed' := #[true, true, true, true, true, true, true, true, true, true, true, false, false, false, false, false, false, false, false, false, false, false, false, false, false, false, false, false, false, false, false, false]) rfl (by kernel_rfl) (by kernel_rfl) (by kernel_rfl) (by kernel_rfl) hF (by kernel_rfl) (by kernel_rfl) (v := .bool false) (fun Wx _ => by kernel_rfl) (by kernel_rfl) (hO.sub (.cons_cons _ (.cons_cons _ (.cons_cons _ (List.nil_sublist _))))) ?_
        clear hF; intro a hF
        refine A_take (i := 11) (listed' := #[true, true, true, true, true, true, true, true, true, true, true, true, false, false, false, false, false, false, false, false, false, false, false, false, false, false, false, false, false, false, false, false]) rfl (by kernel_rfl) (by kernel_rfl) (by kernel_rfl) (by kernel_rfl) hF (by kernel_rfl) (by kernel_rfl) (v := .bool false) (fun Wx _ => by kernel_rfl) (by kernel_rfl) (hO.sub (.cons_cons _ (.cons_cons _ (.cons_cons _ (List.nil_sublist _))))) ?_
        clear hF; intro a hF
        refine A_take (i := 12) (listed' := #[true, true, true, true, true, true, true, true, true, true, true, true, true, false, false, false, false, false, false, false, false, false, false, false, false, false, false, false, false, false, false, false]) rfl (by kernel_rfl) (by kernel_rfl) (by kernel_rfl) (by kernel_rfl) hF (by kernel_rfl) (by kernel_rfl) (v := .bool false) (fun Wx _ => by kernel_rfl) (by kernel_rfl) (hO.sub (.cons_cons _ (.cons_cons _ (.cons_cons _ (List.nil_sublist _))))) ?_
        clear hF; intro a hF
        refine A_take (i := 13) (listed' := #[true, true, true, true, true, true, true, true, true, true, true, true, true, true, false, false, false, false, false, false, false, false, false, false, false, false, false, false, false, false, false, false]) rfl (by kernel_rfl) (by kernel_rfl) (by kernel_rfl) (by kernel_rfl) hF (by kernel_rfl) (by kernel_rfl) (v := .agg #[.string k0.space, .string k0.name]) (fun Wx hO => x_load (p := .pointer (some ⟨b2, 0, none⟩)) rfl (by kernel_rfl) (run_loadA (k := 2) (by kernel_rfl) (by kernel_rfl) (hO.blk (List.mem_cons_of_mem _ List.mem_cons_self)) (by kernel_rfl) (by kernel_rfl))) (by kernel_rfl) (hO.sub (.cons_cons _ (.cons_cons _ (.cons_cons _ (List.nil_sublist _))))) ?_
        clear hF; intro a hF
        refine A_take (i := 14) (listed' := #[true, true, true, true, true, true, true, true, true, true, true, true, true, true, true, false, false, false, false, false, false, false, false, false, false, false, false, false, false, false, false, false]) rfl (by kernel_rfl) (by kernel_rfl) (by kernel_rfl) (by kernel_rfl) hF (by kernel_rfl) (by kernel_rfl) (v := .agg #[.string k0.space, .string k0.name]) (fun Wx hO => x_load (p := .pointer (some ⟨b3, 0, none⟩)) rfl (by kernel_rfl) (run_loadA (k := 2) (by kernel_rfl) (by kernel_rfl) (hO.blk List.mem_cons_self) (by kernel_rfl) (by kernel_rfl))) (by kernel_rfl) (hO.sub (.cons_cons _ (.cons_cons _ (.cons_cons _ (List.nil_sublist _))))) ?_
        clear hF; intro a hF
        refine A_take (i := 15) (listed' := #[true, true, true, true, true, true, true, true, true, true, true, true, true, true, true, true, false, false, false, false, false, false, false, false, false, false, false, false, false, false, false, false]) rfl (by kernel_rfl) (by kernel_rfl) (by kernel_rfl) (by kernel_rfl) hF (by kernel_rfl) (by kernel_rfl) (v := .bool false) (fun Wx _ => (x_bool (x := !(decide (k0 = k0))) (notF (decide_eq_true rfl)) (x_neKey (a := k0) (b := k0) rfl (by kernel_rfl) (by kernel_rfl)))) (by kernel_rfl) (hO.sub (.cons_cons _ (.cons_cons _ (.cons_cons _ (List.nil_sublist _))))) ?_
        clear hF; intro a hF
        refine A_take (i := 16) (listed' := #[true, true, true, true, true, true, true, true, true, true, true, true, true, true, true, true, true, false, false, false, false, false, false, false, false, false, false, false, false, false, false, false]) rfl (by kernel_rfl) (by kernel_rfl) (by kernel_rfl) (by kernel_rfl) hF (by kernel_rfl) (by kernel_rfl) (v := .bool false) (fun Wx _ => by kernel_rfl) (by kernel_rfl) (hO.sub (.cons_cons _ (.cons_cons _ (.cons_cons _ (List.nil_sublist _))))) ?_
        clear hF; intro a hF
        refine A_take (i := 17) (listed' := #[true, true, true, true, true, true, true, true, true, true, true, true, true, true, true, true, true, true, false, false, false, false, false, false, false, false, false, false, false, false, false, false]) rfl (by kernel_rfl) (by kernel_rfl) (by kernel_rfl) (by kernel_rfl) hF (by kernel_rfl) (by kernel_rfl) (v := .bool false) (fun Wx _ => by kernel_rfl) (by kernel_rfl) (hO.sub (.cons_cons _ (.cons_cons _ (.cons_cons _ (List.nil_sublist _))))) ?_
        clear hF; intro a hF
        refine A_take (i := 18) (listed' := #[true, true, true, true, true, true, true, true, true, true, true, true, true, true, true, true, true, true, true, false, false, false, false, false, false, false, false, false, false, false, false, false]) rfl (by kernel_rfl) (by kernel_rfl) (by kernel_rfl) (by kernel_rfl) hF (by kernel_rfl) (by kernel_rfl) (v := .nilIface) (fun Wx _ => by kernel_rfl) (by kernel_rfl) (hO.sub (.cons_cons _ (.cons_cons _ (.cons_cons _ (List.nil_sublist _))))) ?_
        clear hF; intro a hF
        refine A_take (i := 19) (listed' := #[true, true, true, true, true, true, true, true, true, true, true, true, true, true, true, true, true, true, true, true, false, false, false, false, false, false, false, false, false, false, false, false]) rfl (by kernel_rfl) (by kernel_rfl) (by kernel_rfl) (by kernel_rfl) hF (by kernel_rfl) (by kernel_rfl) (v := .bool true) (fun Wx _ => by kernel_rfl) (by kernel_rfl) (hO.sub (.cons_cons _ (.cons_cons _ (.cons_cons _ (List.nil_sublist _))))) ?_
        clear hF; intro a hF
        refine A_take (i := 20) (listed' := #[true, true, true, true, true, true, true, true, true, true, true, true, true, true, true, true, true, true, true, true, true, false, false, false, false, false, false, false, false, false, false, false]) rfl (by kernel_rfl) (by kernel_rfl) (by kernel_rfl) (by kernel_rfl) hF (by kernel_rfl) (by kernel_rfl) (v := .bool true) (fun Wx _ => by kernel_rfl) (by kernel_rfl) (hO.sub (.cons_cons _ (.cons_cons _ (.cons_cons _ (List.nil_sublist _))))) ?_
        clear hF; intro a hF
        refine A_take (i := 21) (listed' := #[true, true, true, true, true, true, true, true, true, true, true, true, true, true, true, true, true, true, true, true, true, true, false, false, false, false, false, false, false, false, false, false]) rfl (by kernel_rfl) (by kernel_rfl) (by kernel_rfl) (by kernel_rfl) hF (by kernel_rfl) (by kernel_rfl) (v := .bool false) (fun Wx _ => by kernel_rfl) (by kernel_rfl) (hO.sub (.cons_cons _ (.cons_cons _ (.cons_cons _ (List.nil_sublist _))))) ?_
        clear hF; intro a hF
        refine A_take (i := 22) (listed' := #[true, true, true, true, true, true, true, true, true, true, true, true, true, true, true, true, true, true, true, true, true, true, true, false, false, false, false, false, false, false, false, false]) rfl (by kernel_rfl) (by kernel_rfl) (by kernel_rfl) (by kernel_rfl) hF (by kernel_rfl) (by kernel_rfl) (v := .bool false) (fun Wx _ => by kernel_rfl) (by kernel_rfl) (hO.sub (.cons_cons _ (.cons_cons _ (.cons_cons _ (List.nil_sublist _))))) ?_
        clear hF; intro a hF
        refine A_take (i := 23) (listed' := #[true, true, true, true, true, true, true, true, true, true, true, true, true, true, true, true, true, true, true, true, true, true, true, true, false, false, false, false, false, false, false, false]) rfl (by kernel_rfl) (by kernel_rfl) (by kernel_rfl) (by kernel_rfl) hF (by kernel_rfl) (by kernel_rfl) (v := .bool false) (fun Wx _ => by kernel_rfl) (by kernel_rfl) (hO.sub (.cons_cons _ (.cons_cons _ (.cons_cons _ (List.nil_sublist _))))) ?_
        clear hF; intro a hF
        refine A_take (i := 24) (listed' := #[true, true, true, true, true, true, true, true, true, true, true, true, true, true, true, true, true, true, true, true, true, true, true, true, true, false, false, false, false, false, false, false]) rfl (by kernel_rfl) (by kernel_rfl) (by kernel_rfl) (by kernel_rfl) hF (by kernel_rfl) (by kernel_rfl) (v := .bool true) (fun Wx _ => by kernel_rfl) (by kernel_rfl) (hO.sub (.cons_cons _ (.cons_cons _ (.cons_cons _ (List.nil_sublist _))))) ?_
        clear hF; intro a hF
        refine A_take (i := 25) (listed' := #[true, true, true, true, true, true, true, true, true, true, true, true, true, true, true, true, true, true, true, true, true, true, true, true, true, true, false, false, false, false, false, false]) rfl (by kernel_rfl) (by kernel_rfl) (by kernel_rfl) (by kernel_rfl) hF (by kernel_rfl) (by kernel_rfl) (v := .bool false) (fun Wx _ => by kernel_rfl) (by kernel_rfl) (hO.sub (.cons_cons _ (.cons_cons _ (.cons_cons _ (List.nil_sublist _))))) ?_
        clear hF; intro a hF
        refine A_take (i := 26) (listed' := #[true, true, true, true, true, true, true, true, true, true, true, true, true, true, true, true, true, true, true, true, true, true, true, true, true, true, true, false, false, false, false, false]) rfl (by kernel_rfl) (by kernel_rfl) (by kernel_rfl) (by kernel_rfl) hF (by kernel_rfl) (by kernel_rfl) (v := .bool false) (fun Wx _ => by kernel_rfl) (by kernel_rfl) (hO.sub (.cons_cons _ (.cons_cons _ (.cons_cons _ (List.nil_sublist _))))) ?_
        clear hF; intro a hF
        refine A_takeOff (i := 27) (listed' := #[true, true, true, true, true, true, true, true, true, true, true, true, true, true, true, true, true, true, true, true, true, true, true, true, true, true, true, true, false, false, false, false]) rfl (by kernel_rfl) (by kernel_rfl) (by kernel_rfl) (by kernel_rfl) hF (by kernel_rfl) (by kernel_rfl) (hO.sub (.cons_cons _ (.cons_cons _ (.cons_cons _ (List.nil_sublist _))))) ?_
        clear hF; intro a hF
        refine A_takeOff (i := 28) (listed' := #[true, true, true, true, true, true, true, true, true, true, true, true, true, true, true, true, true, true, true, true, true, true, true, true, true, true, true, true, true, false, false, false]) rfl (by kernel_rfl) (by kernel_rfl) (by kernel_rfl) (by kernel_rfl) hF (by kernel_rfl) (by kernel_rfl) (hO.sub (.cons_cons _ (.cons_cons _ (.cons_cons _ (List.nil_sublist _))))) ?_
        clear hF; intro a hF
        refine A_takeOff (i := 29) (listed' := #[true, true, true, true, true, true, true, true, true, true, true, true, true, true, true, true, true, true, true, true, true, true, true, true, true, true, true, true, true, true, false, false]) rfl (by kernel_rfl) (by kernel_rfl) (by kernel_rfl) (by kernel_rfl) hF (by kernel_rfl) (by kernel_rfl) (hO.sub (.cons_cons _ (.cons_cons _ (.cons_cons _ (List.nil_sublist _))))) ?_
        clear hF; intro a hF
        refine A_take (i := 30) (listed' := #[true, true, true, true, true, true, true, true, true, true, true, true, true, true, true, true, true, true, true, true, true, true, true, true, true, true, true, true, true, true, true, false]) rfl (by kernel_rfl) (by kernel_rfl) (by kernel_rfl) (by kernel_rfl) hF (by kernel_rfl) (by kernel_rfl) (v := .bool false) (fun Wx _ => by kernel_rfl) (by kernel_rfl) (hO.sub (.cons_cons _ (.cons_cons _ (.cons_cons _ (List.nil_sublist _))))) ?_
        clear hF; intro a hF
        refine A_take (i := 31) (listed' := #[true, true, true, true, true, true, true, true, true, true, true, true, true, true, true, true, true, true, true, true, true, true, true, true, true, true, true, true, true, true, true, true]) rfl (by kernel_rfl) (by kernel_rfl) (by kernel_rfl) (by kernel_rfl) hF (by kernel_rfl) (by kernel_rfl) (v := .bool false) (fun Wx _ => by kernel_rfl) (by kernel_rfl) (hO.sub (.cons_cons _ (.cons_cons _ (.cons_cons _ (List.nil_sublist _))))) ?_
        clear hF; intro a hF
        refine A_done (by kernel_rfl) ?_
        refine hK12 _ _ ?_
        refine cond_f hF (by kernel_rfl) (by kernel_rfl) ?_
        refine wp_skip ?_
        refine hK11 _ _ ?_
        refine wp_seq_k fun K13 hK13 => ?_
        refine wp_seq_k fun K14 hK14 => ?_
        refine wp_region_lit ?_
        refine L_val hF (by kernel_rfl) (by kernel_rfl) (v := .agg #[.string k.space, .string k.name]) (x_load (p := .pointer (some ⟨b1, 0, none⟩)) rfl (by kernel_rfl) (run_loadA (k := 2) (by kernel_rfl) (by kernel_rfl) (hO.blk (List.mem_cons_of_mem _ (List.mem_cons_of_mem _ List.mem_cons_self))) (by kernel_rfl) (by kernel_rfl))) (by kernel_rfl) ?_
        clear hF; intro a hF
        refine L_call hF (by kernel_rfl) (by kernel_rfl) (by kernel_rfl) (by kernel_rfl) ((ref05_Key k W12 (by omega) (by omega)).mono fun v W' h => (⟨by rw [h.1, hk], h.2⟩ : v = .bool true ∧ Own W12 noX [] W')) ?_
        clear hF; rintro _ W13 a ⟨rfl, hk⟩ hF
        replace hO := hO.call0 hk; clear hk
        refine L_val hF (by kernel_rfl) (by kernel_rfl) (v := .bool false) (by kernel_rfl) (by kernel_rfl) ?_
        clear hF; intro a hF
        refine L_nil ?_
        refine hK14 _ _ ?_
        refine cond_f hF (by kernel_rfl) (by kernel_rfl) ?_
        refine wp_skip ?_
        refine hK13 _ _ ?_
        refine wp_seq_k fun K15 hK15 => ?_
        refine wp_region_lit ?_
        refine L_val hF (by kernel_rfl) (by kernel_rfl) (v := .agg #[.string k.space, .string k.name]) (x_load (p := .pointer (some ⟨b1, 0, none⟩)) rfl (by kernel_rfl) (run_loadA (k := 2) (by kernel_rfl) (by kernel_rfl) (hO.blk (List.mem_cons_of_mem _ (List.mem_cons_of_mem _ List.mem_cons_self))) (by kernel_rfl) (by kernel_rfl))) (by kernel_rfl) ?_
        clear hF; intro a hF
        refine L_call hF (by kernel_rfl) (by kernel_rfl) (by kernel_rfl) (by kernel_rfl) ((names_Format k W13 (by omega) (by omega)).mono fun v W' h => (⟨by rw [h.1, fmtKey, if_pos hk], h.2⟩ : v = .string ((k.space ++ (⟨#[47]⟩ : ByteArray)) ++ k.name) ∧ Own W13 noX [] W')) ?_
        clear hF; rintro _ W14 a ⟨rfl, hk⟩ hF
        replace hO := hO.call0 hk; clear hk
        refine L_call hF (by kernel_rfl) (by kernel_rfl) (by kernel_rfl) (by kernel_rfl) (names_Parse_some I ea m ((k.space ++ (⟨#[47]⟩ : ByteArray)) ++ k.name) k W14 (by (first | omega | (simp only [ByteArray.size_append, sz, List.length_cons, List.length_nil]; omega))) (hO.oldCell (lt_of_cell hM) (fun h => h) hM) (hE.own hO) h5 (parse_fmt k hk)) ?_
        clear hF; rintro _ W15 a ⟨rfl, hk⟩ hF
        replace hO := hO.call0 hk; clear hk
        refine L_val hF (by kernel_rfl) (by kernel_rfl) (v := .tuple #[keyV k, .nilIface]) (by kernel_rfl) (by kernel_rfl) ?_
        clear hF; intro a hF
        refine L_val hF (by kernel_rfl) (by kernel_rfl) (v := keyV k) (by kernel_rfl) (by kernel_rfl) ?_
        clear hF; intro a hF
        refine L_val hF (by kernel_rfl) (by kernel_rfl) (v := .nilIface) (by kernel_rfl) (by kernel_rfl) ?_
        clear hF; intro a hF
        refine L_new hF hO (by kernel_rfl) (by kernel_rfl) (vf := fun b => .pointer (some ⟨b, 0, none⟩)) (ob := .cells #[.string (⟨#[]⟩ : ByteArray), .string (⟨#[]⟩ : ByteArray)] 23) (by kernel_rfl) (by kernel_rfl) ?_
        clear hF hO; intro b4 W16 a hO hF
        obtain ⟨W17, hst, hO1⟩ := run_storeAt (P := Tryd.prog) (k := 2) (T := 23) (off := 0) (v := keyV k) (cs := #[.string (⟨#[]⟩ : ByteArray), .string (⟨#[]⟩ : ByteArray)]) (cs' := #[.string k.space, .string k.name]) hO (by kernel_rfl) (by kernel_rfl) (by kernel_rfl) (Nat.le_of_ble_eq_true (by kernel_rfl)) (by kernel_rfl) (.head _)
        refine L_skip hF (by kernel_rfl) (by kernel_rfl) (x_store (p := .pointer (some ⟨b4, 0, none⟩)) (v := keyV k) rfl (by kernel_rfl) (by kernel_rfl) hst) (by kernel_rfl) ?_
        clear hst hF; intro a hF; replace hO := hO1; clear hO1
        refine L_val hF (by kernel_rfl) (by kernel_rfl) (v := .nilIface) (by kernel_rfl) (by kernel_rfl) ?_
        clear hF; intro a hF
        refine L_nil ?_
        refine hK15 _ _ ?_
        refine wp_seq_k fun K16 hK16 => ?_
        refine A_start (fun Wx => Own W noX [.blk b4 (.cells #[.string k.space, .string k.name] 23 (0, 0)), .blk b3 (.cells #[.string k0.space, .string k0.name] 23 (0, 0)), .blk b2 (.cells #[.string k0.space, .string k0.name] 23 (0, 0)), .blk b1 (.cells #[.string k.space, .string k.name] 23 (0, 0))] Wx) (by kernel_rfl) ?_
        replace hO := hO.drewN 1
        generalize hWd : ({ W17 with drawn := W17.drawn + 1 } : World) = W17_d at hO ⊢; clear hWd
        refine A_take (i := 0) (listed' := #[true, false, false, false, false, false, false, false, false, false, false, false, false, false, false, false, false, false, false]) rfl (by kernel_rfl) (by kernel_rfl) (by kernel_rfl) (by kernel_rfl) hF (by kernel_rfl) (by kernel_rfl) (v := .agg #[.string k.space, .string k.name]) (fun Wx hO => x_load (p := .pointer (some ⟨b1, 0, none⟩)) rfl (by kernel_rfl) (run_loadA (k := 2) (by kernel_rfl) (by kernel_rfl) (hO.blk (List.mem_cons_of_mem _ (List.mem_cons_of_mem _ (List.mem_cons_of_mem _ List.mem_cons_self)))) (by kernel_rfl) (by kernel_rfl))) (by kernel_rfl) (hO.sub (.cons_cons _ (.cons_cons _ (.cons_cons _ (.cons_cons _ (List.nil_sublist _)))))) ?_
        clear hF; intro a hF
        refine A_take (i := 2) (listed' := #[true, false, true, false, false, false, false, false, false, false, false, false, false, false, false, false, false, false, false]) rfl (by kernel_rfl) (by kernel_rfl) (by kernel_rfl) (by kernel_rfl) hF (by kernel_rfl) (by kernel_rfl) (v := .pointer (some ⟨b1, 0, none⟩)) (fun Wx _ => by kernel_rfl) (by kernel_rfl) (hO.sub (.cons_cons _ (.cons_cons _ (.cons_cons _ (.cons_cons _ (List.nil_sublist _)))))) ?_
        clear hF; intro a hF
        refine A_take (i := 3) (listed' := #[true, false, true, true, false, false, false, false, false, false, false, false, false, false, false, false, false, false, false]) rfl (by kernel_rfl) (by kernel_rfl) (by kernel_rfl) (by kernel_rfl) hF (by kernel_rfl) (by kernel_rfl) (v := .string k.space) (fun Wx hO => x_load (p := .pointer (some ⟨b1, 0, none⟩)) rfl (by kernel_rfl) (run_load1 (by kernel_rfl) ((hO.cell (List.mem_cons_of_mem _ (List.mem_cons_of_mem _ (List.mem_cons_of_mem _ List.mem_cons_self)))).trans (by kernel_rfl)))) (by kernel_rfl) (hO.sub (.cons_cons _ (.cons_cons _ (.cons_cons _ (.cons_cons _ (List.nil_sublist _)))))) ?_
        clear hF; intro a hF
        refine A_take (i := 4) (listed' := #[true, false, true, true, true, false, false, false, false, false, false, false, false, false, false, false, false, false, false]) rfl (by kernel_rfl) (by kernel_rfl) (by kernel_rfl) (by kernel_rfl) hF (by kernel_rfl) (by kernel_rfl) (v := .string (k.space ++ (⟨#[47]⟩ : ByteArray))) (fun Wx _ => (x_cat (s := k.space) (t := (⟨#[47]⟩ : ByteArray)) rfl (by kernel_rfl) (by kernel_rfl) (by (first | omega | (simp only [ByteArray.size_append, sz, List.length_cons, List.length_nil]; omega))))) (by kernel_rfl) (hO.sub (.cons_cons _ (.cons_cons _ (.cons_cons _ (.cons_cons _ (List.nil_sublist _)))))) ?_
        clear hF; intro a hF
        refine A_take (i := 5) (listed' := #[true, false, true, true, true, true, false, false, false, false, false, false, false, false, false, false, false, false, false]) rfl (by kernel_rfl) (by kernel_rfl) (by kernel_rfl) (by kernel_rfl) hF (by kernel_rfl) (by kernel_rfl) (v := .pointer (some ⟨b1, 1, none⟩)) (fun Wx _ => by kernel_rfl) (by kernel_rfl) (hO.sub (.cons_cons _ (.cons_cons _ (.cons_cons _ (.cons_cons _ (List.nil_sublist _)))))) ?_
        clear hF; intro a hF
        refine A_take (i := 6) (listed' := #[true, false, true, true, true, true, true, false, false, false, false, false, false, false, false, false, false, false, false]) rfl (by kernel_rfl) (by kernel_rfl) (by kernel_rfl) (by kernel_rfl) hF (by kernel_rfl) (by kernel_rfl) (v := .string k.name) (fun Wx hO => x_load (p := .pointer (some ⟨b1, 1, none⟩)) rfl (by kernel_rfl) (run_load1 (by kernel_rfl) ((hO.cell (List.mem_cons_of_mem _ (List.mem_cons_of_mem _ (List.mem_cons_of_mem _ List.mem_cons_self)))).trans (by kernel_rfl)))) (by kernel_rfl) (hO.sub (.cons_cons _ (.cons_cons _ (.cons_cons _ (.cons_cons _ (List.nil_sublist _)))))) ?_
        clear hF; intro a hF
        refine A_take (i := 7) (listed' := #[true, false, true, true, true, true, true, true, false, false, false, false, false, false, false, false, false, false, false]) rfl (by kernel_rfl) (by kernel_rfl) (by kernel_rfl) (by kernel_rfl) hF (by kernel_rfl) (by kernel_rfl) (v := .string ((k.space ++ (⟨#[47]⟩ : ByteArray)) ++ k.name)) (fun Wx _ => (x_cat (s := k.space ++ (⟨#[47]⟩ : ByteArray)) (t := k.name) rfl (by kernel_rfl) (by kernel_rfl) (by (first | omega | (simp only [ByteArray.size_append, sz, List.length_cons, List.length_nil]; omega))))) (by kernel_rfl) (hO.sub (.cons_cons _ (.cons_cons _ (.cons_cons _ (.cons_cons _ (List.nil_sublist _)))))) ?_
        clear hF; intro a hF
        refine A_one (i := 1) (listed' := #[true, true, true, true, true, true, true, true, false, false, false, false, false, false, false, false, false, false, false]) (by kernel_rfl) rfl (by kernel_rfl) ?_
        refine OpK.call hF (by kernel_rfl) (by kernel_rfl) (by kernel_rfl) (by kernel_rfl) ((names_Format k W17_d (by omega) (by omega)).mono fun v W' h => (⟨by rw [h.1, fmtKey, if_pos hk], h.2⟩ : v = .string ((k.space ++ (⟨#[47]⟩ : ByteArray)) ++ k.name) ∧ Own W17_d noX [] W')) ?_
        clear hF; rintro _ W18 a ⟨rfl, hk⟩ hF
        replace hO := hO.call0 hk; clear hk
        refine ⟨hO.sub (.cons_cons _ (.cons_cons _ (.cons_cons _ (.cons_cons _ (List.nil_sublist _))))), ?_⟩
        refine A_take (i := 8) (listed' := #[true, true, true, true, true, true, true, true, true, false, false, false, false, false, false, false, false, false, false]) rfl (by kernel_rfl) (by kernel_rfl) (by kernel_rfl) (by kernel_rfl) hF (by kernel_rfl) (by kernel_rfl) (v := .bool true) (fun Wx _ => (x_bool (x := strEq ((k.space ++ (⟨#[47]⟩ : ByteArray)) ++ k.name) ((k.space ++ (⟨#[47]⟩ : ByteArray)) ++ k.name)) (strEq_refl _) (by kernel_rfl))) (by kernel_rfl) (hO.sub (.cons_cons _ (.cons_cons _ (.cons_cons _ (.cons_cons _ (List.nil_sublist _)))))) ?_
        clear hF; intro a hF
        refine A_take (i := 9) (listed' := #[true, true, true, true, true, true, true, true, true, true, false, false, false, false, false, false, false, false, false]) rfl (by kernel_rfl) (by kernel_rfl) (by kernel_rfl) (by kernel_rfl) hF (by kernel_rfl) (by kernel_rfl) (v := .bool true) (fun Wx _ => by kernel_rfl) (by kernel_rfl) (hO.sub (.cons_cons _ (.cons_cons _ (.cons_cons _ (.cons_cons _ (List.nil_sublist _)))))) ?_
        clear hF; intro a hF
        refine A_take (i := 10) (listed' := #[true, true, true, true, true, true, true, true, true, true, true, false, false, false, false, false, false, false, false]) rfl (by kernel_rfl) (by kernel_rfl) (by kernel_rfl) (by kernel_rfl) hF (by kernel_rfl) (by kernel_rfl) (v := .nilIface) (fun Wx _ => by kernel_rfl) (by kernel_rfl) (hO.sub (.cons_cons _ (.cons_cons _ (.cons_cons _ (.cons_cons _ (List.nil_sublist _)))))) ?_
        clear hF; intro a hF
        refine A_take (i := 11) (listed' := #[true, true, true, true, true, true, true, true, true, true, true, true, false, false, false, false, false, false, false]) rfl (by kernel_rfl) (by kernel_rfl) (by kernel_rfl) (by kernel_rfl) hF (by kernel_rfl) (by kernel_rfl) (v := .bool true) (fun Wx _ => by kernel_rfl) (by kernel_rfl) (hO.sub (.cons_cons _ (.cons_cons _ (.cons_cons _ (.cons_cons _ (List.nil_sublist _)))))) ?_
        clear hF; intro a hF
        refine A_take (i := 12) (listed' := #[true, true, true, true, true, true, true, true, true, true, true, true, true, false, false, false, false, false, false]) rfl (by kernel_rfl) (by kernel_rfl) (by kernel_rfl) (by kernel_rfl) hF (by kernel_rfl) (by kernel_rfl) (v := .bool true) (fun Wx _ => by kernel_rfl) (by kernel_rfl) (hO.sub (.cons_cons _ (.cons_cons _ (.cons_cons _ (.cons_cons _ (List.nil_sublist _)))))) ?_
        clear hF; intro a hF
        refine A_take (i := 13) (listed' := #[true, true, true, true, true, true, true, true, true, true, true, true, true, true, false, false, false, false, false]) rfl (by kernel_rfl) (by kernel_rfl) (by kernel_rfl) (by kernel_rfl) hF (by kernel_rfl) (by kernel_rfl) (v := .bool true) (fun Wx _ => by kernel_rfl) (by kernel_rfl) (hO.sub (.cons_cons _ (.cons_cons _ (.cons_cons _ (.cons_cons _ (List.nil_sublist _)))))) ?_
        clear hF; intro a hF
        refine A_take (i := 14) (listed' := #[true, true, true, true, true, true, true, true, true, true, true, true, true, true, true, false, false, false, false]) rfl (by kernel_rfl) (by kernel_rfl) (by kernel_rfl) (by kernel_rfl) hF (by kernel_rfl) (by kernel_rfl) (v := .agg #[.string k.space, .string k.name]) (fun Wx hO => x_load (p := .pointer (some ⟨b4, 0, none⟩)) rfl (by kernel_rfl) (run_loadA (k := 2) (by kernel_rfl) (by kernel_rfl) (hO.blk List.mem_cons_self) (by kernel_rfl) (by kernel_rfl))) (by kernel_rfl) (hO.sub (.cons_cons _ (.cons_cons _ (.cons_cons _ (.cons_cons _ (List.nil_sublist _)))))) ?_
        clear hF; intro a hF
        refine A_take (i := 15) (listed' := #[true, true, true, true, true, true, true, true, true, true, true, true, true, true, true, true, false, false, false]) rfl (by kernel_rfl) (by kernel_rfl) (by kernel_rfl) (by kernel_rfl) hF (by kernel_rfl) (by kernel_rfl) (v := .agg #[.string k.space, .string k.name]) (fun Wx hO => x_load (p := .pointer (some ⟨b1, 0, none⟩)) rfl (by kernel_rfl) (run_loadA (k := 2) (by kernel_rfl) (by kernel_rfl) (hO.blk (List.mem_cons_of_mem _ (List.mem_cons_of_mem _ (List.mem_cons_of_mem _ List.mem_cons_self)))) (by kernel_rfl) (by kernel_rfl))) (by kernel_rfl) (hO.sub (.cons_cons _ (.cons_cons _ (.cons_cons _ (.cons_cons _ (List.nil_sublist _)))))) ?_
        clear hF; intro a hF
        refine A_take (i := 16) (listed' := #[true, true, true, true, true, true, true, true, true, true, true, true, true, true, true, true, true, false, false]) rfl (by kernel_rfl) (by kernel_rfl) (by kernel_rfl) (by kernel_rfl) hF (by kernel_rfl) (by kernel_rfl) (v := .bool true) (fun Wx _ => (x_bool (x := decide (k = k)) (decide_eq_true rfl) (x_eqKey (a := k) (b := k) rfl (by kernel_rfl) (by kernel_rfl)))) (by kernel_rfl) (hO.sub (.cons_cons _ (.cons_cons _ (.cons_cons _ (.cons_cons _ (List.nil_sublist _)))))) ?_
        clear hF; intro a hF
        refine A_take (i := 17) (listed' := #[true, true, true, true, true, true, true, true, true, true, true, true, true, true, true, true, true, true, false]) rfl (by kernel_rfl) (by kernel_rfl) (by kernel_rfl) (by kernel_rfl) hF (by kernel_rfl) (by kernel_rfl) (v := .bool true) (fun Wx _ => by kernel_rfl) (by kernel_rfl) (hO.sub (.cons_cons _ (.cons_cons _ (.cons_cons _ (.cons_cons _ (List.nil_sublist _)))))) ?_
        clear hF; intro a hF
        refine A_take (i := 18) (listed' := #[true, true, true, true, true, true, true, true, true, true, true, true, true, true, true, true, true, true, true]) rfl (by kernel_rfl) (by kernel_rfl) (by kernel_rfl) (by kernel_rfl) hF (by kernel_rfl) (by kernel_rfl) (v := .bool true) (fun Wx _ => by kernel_rfl) (by kernel_rfl) (hO.sub (.cons_cons _ (.cons_cons _ (.cons_cons _ (.cons_cons _ (List.nil_sublist _)))))) ?_
        clear hF; intro a hF
        refine A_done (by kernel_rfl) ?_
        refine hK16 _ _ ?_
        refine wp_ret ?_
        -- way 4: ¬ (s.size : Int) > 100; ¬ (k.space.size : Int) > 100; ¬ (k.name.size : Int) > 100
        refine ret1 hF (v := .bool true) rfl (resT (by kernel_rfl)) (by refine ⟨?_, hO.nil⟩; first | rfl | (simp [*]; done)) .ret (.inl rfl)

set_option maxRecDepth 20000 in
theorem law05_NamesKeys_sn (I : List Nat) (ea : Nat → Addr) (m : Int) (s : ByteArray) (k : Key) (k0 : Key) (W : World) (hM : W.cell? ⟨18, 0, none⟩ = some (.int .i64 m)) (hE : Errs I ea W) (h5 : I.contains 5 = true) (hI : I = errIs) (hp : parseKey s = some k0) (hk : keyB k = false) : Ret Tryd.prog 3 #[.string s, keyV k] W fun v W' => v = .bool true ∧ Own W noX [] W' := by
  refine enter Tryd.func3 rfl (n := 99) rfl (by kernel_rfl) (E0 := [(1, keyV k), (0, .string s)]) (by kernel_rfl) ?_
  intro a hF; have hO := Own.start W noX
  refine wp_seq_k fun K1 hK1 => ?_
  refine wp_region_lit ?_
  refine L_new hF hO (by kernel_rfl) (by kernel_rfl) (vf := fun b => .pointer (some ⟨b, 0, none⟩)) (ob := .cells #[.string k.space, .string k.name] 23) (by kernel_rfl) (by kernel_rfl) ?_
  clear hF hO; intro b1 W1 a hO hF
  refine L_val hF (by kernel_rfl) (by kernel_rfl) (v := .bool false) (by kernel_rfl) (by kernel_rfl) ?_
  clear hF; intro a hF
  refine L_nil ?_
  refine hK1 _ _ ?_
  refine wp_seq_k fun K2 hK2 => ?_
  refine wp_seq_k fun K3 hK3 => ?_
  refine wp_region_lit ?_
  refine L_call hF (by kernel_rfl) (by kernel_rfl) (by kernel_rfl) (by kernel_rfl) (law05_alive I ea m W1 (hO.oldCell (lt_of_cell hM) (fun h => h) hM) (hE.own hO) h5) ?_
  clear hF; rintro _ W2 a ⟨rfl, hk⟩ hF
  replace hO := hO.call0 hk; clear hk
  refine L_val hF (by kernel_rfl) (by kernel_rfl) (v := .bool false) (by kernel_rfl) (by kernel_rfl) ?_
  clear hF; intro a hF
  refine L_nil ?_
  refine hK3 _ _ ?_
  refine cond_f hF (by kernel_rfl) (by kernel_rfl) ?_
  refine wp_skip ?_
  refine hK2 _ _ ?_
  refine wp_seq_k fun K4 hK4 => ?_
  refine wp_seq_k fun K5 hK5 => ?_
  refine wp_region_lit ?_
  refine L_val hF (by kernel_rfl) (by kernel_rfl) (v := .string s) (by kernel_rfl) (by kernel_rfl) ?_
  clear hF; intro a hF
  refine L_val hF (by kernel_rfl) (by kernel_rfl) (v := .int .i64 ((s.size : Int))) (by kernel_rfl) (by kernel_rfl) ?_
  clear hF; intro a hF
  refine L_val hF (by kernel_rfl) (by kernel_rfl) (v := .bool (decide ((s.size : Int) > 100))) (by kernel_rfl) (by kernel_rfl) ?_
  clear hF; intro a hF
  refine L_val hF (by kernel_rfl) (by kernel_rfl) (v := .bool (decide ((s.size : Int) > 100))) (by kernel_rfl) (by kernel_rfl) ?_
  clear hF; intro a hF
  by_cases q1 : (s.size : Int) > 100
  ·
    replace hF := hF.know (d := 15) (v' := .bool true) (by kernel_rfl) (congrArg Value.bool (decide_eq_true q1))
    refine L_off hF (by kernel_rfl) (by kernel_rfl) ?_
    clear hF; intro a hF
    refine L_off hF (by kernel_rfl) (by kernel_rfl) ?_
    clear hF; intro a hF
    refine L_off hF (by kernel_rfl) (by kernel_rfl) ?_
    clear hF; intro a hF
    refine L_off hF (by kernel_rfl) (by kernel_rfl) ?_
    clear hF; intro a hF
    refine L_val hF (by kernel_rfl) (by kernel_rfl) (v := .bool true) (by kernel_rfl) (by kernel_rfl) ?_
    clear hF; intro a hF
    refine L_val hF (by kernel_rfl) (by kernel_rfl) (v := .bool true) (by kernel_rfl) (by kernel_rfl) ?_
    clear hF; intro a hF
    refine L_off hF (by kernel_rfl) (by kernel_rfl) ?_
    clear hF; intro a hF
    refine L_off hF (by kernel_rfl) (by kernel_rfl) ?_
    clear hF; intro a hF
    refine L_off hF (by kernel_rfl) (by kernel_rfl) ?_
    clear hF; intro a hF
    refine L_off hF (by kernel_rfl) (by kernel_rfl) ?_
    clear hF; intro a hF
    refine L_val hF (by kernel_rfl) (by kernel_rfl) (v := .bool true) (by kernel_rfl) (by kernel_rfl) ?_
    clear hF; intro a hF
    refine L_nil ?_
    refine hK5 _ _ ?_
    refine cond_t hF (by kernel_rfl) (by kernel_rfl) ?_
    refine wp_seq_k fun K6 hK6 => ?_
    refine wp_region_lit ?_
    refine L_val hF (by kernel_rfl) (by kernel_rfl) (v := .bool true) (by kernel_rfl) (by kernel_rfl) ?_
    clear hF; intro a hF
    refine L_nil ?_
    refine hK6 _ _ ?_
    refine wp_ret ?_
    refine then_ret ?_
    -- way 1: (s.size : Int) > 100
    refine ret1 hF (v := .bool true) rfl (resT (by kernel_rfl)) (by refine ⟨?_, hO.nil⟩; first | rfl | (simp [*]; done)) .ret (.inl rfl)
  ·
    replace hF := hF.know (d := 15) (v' := .bool false) (by kernel_rfl) (congrArg Value.bool (decide_eq_false q1))
    refine L_val hF (by kernel_rfl) (by kernel_rfl) (v := .pointer (some ⟨b1, 0, none⟩)) (by kernel_rfl) (by kernel_rfl) ?_
    clear hF; intro a hF
    refine L_val hF (by kernel_rfl) (by kernel_rfl) (v := .string k.space) (x_load (p := .pointer (some ⟨b1, 0, none⟩)) rfl (by kernel_rfl) (run_load1 (by kernel_rfl) ((hO.cell List.mem_cons_self).trans (by kernel_rfl)))) (by kernel_rfl) ?_
    clear hF; intro a hF
    refine L_val hF (by kernel_rfl) (by kernel_rfl) (v := .int .i64 ((k.space.size : Int))) (by kernel_rfl) (by kernel_rfl) ?_
    clear hF; intro a hF
    refine L_val hF (by kernel_rfl) (by kernel_rfl) (v := .bool (decide ((k.space.size : Int) > 100))) (by kernel_rfl) (by kernel_rfl) ?_
    clear hF; intro a hF
    refine L_val hF (by kernel_rfl) (by kernel_rfl) (v := .bool (decide ((k.space.size : Int) > 100))) (by kernel_rfl) (by kernel_rfl) ?_
    clear hF; intro a hF
    refine L_val hF (by kernel_rfl) (by kernel_rfl) (v := .bool (decide ((k.space.size : Int) > 100))) (by kernel_rfl) (by kernel_rfl) ?_
    clear hF; intro a hF
    by_cases q2 : (k.space.size : Int) > 100
    ·
      replace hF := hF.know (d := 21) (v' := .bool true) (by kernel_rfl) (congrArg Value.bool (decide_eq_true q2))
      refine L_off hF (by kernel_rfl) (by kernel_rfl) ?_
      clear hF; intro a hF
      refine L_off hF (by kernel_rfl) (by kernel_rfl) ?_
      clear hF; intro a hF
      refine L_off hF (by kernel_rfl) (by kernel_rfl) ?_
      clear hF; intro a hF
      refine L_off hF (by kernel_rfl) (by kernel_rfl) ?_
      clear hF; intro a hF
      refine L_val hF (by kernel_rfl) (by kernel_rfl) (v := .bool true) (by kernel_rfl) (by kernel_rfl) ?_
      clear hF; intro a hF
      refine L_nil ?_
      refine hK5 _ _ ?_
      refine cond_t hF (by kernel_rfl) (by kernel_rfl) ?_
      refine wp_seq_k fun K7 hK7 => ?_
      refine wp_region_lit ?_
      refine L_val hF (by kernel_rfl) (by kernel_rfl) (v := .bool true) (by kernel_rfl) (by kernel_rfl) ?_
      clear hF; intro a hF
      refine L_nil ?_
      refine hK7 _ _ ?_
      refine wp_ret ?_
      refine then_ret ?_
      -- way 2: ¬ (s.size : Int) > 100; (k.space.size : Int) > 100
      refine ret1 hF (v := .bool true) rfl (resT (by kernel_rfl)) (by refine ⟨?_, hO.nil⟩; first | rfl | (simp [*]; done)) .ret (.inl rfl)
    ·
      replace hF := hF.know (d := 21) (v' := .bool false) (by kernel_rfl) (congrArg Value.bool (decide_eq_false q2))
      refine L_val hF (by kernel_rfl) (by kernel_rfl) (v := .pointer (some ⟨b1, 1, none⟩)) (by kernel_rfl) (by kernel_rfl) ?_
      clear hF; intro a hF
      refine L_val hF (by kernel_rfl) (by kernel_rfl) (v := .string k.name) (x_load (p := .pointer (some ⟨b1, 1, none⟩)) rfl (by kernel_rfl) (run_load1 (by kernel_rfl) ((hO.cell List.mem_cons_self).trans (by kernel_rfl)))) (by kernel_rfl) ?_
      clear hF; intro a hF
      refine L_val hF (by kernel_rfl) (by kernel_rfl) (v := .int .i64 ((k.name.size : Int))) (by kernel_rfl) (by kernel_rfl) ?_
      clear hF; intro a hF
      refine L_val hF (by kernel_rfl) (by kernel_rfl) (v := .bool (decide ((k.name.size : Int) > 100))) (by kernel_rfl) (by kernel_rfl) ?_
      clear hF; intro a hF
      refine L_val hF (by kernel_rfl) (by kernel_rfl) (v := .bool (decide ((k.name.size : Int) > 100))) (by kernel_rfl) (by kernel_rfl) ?_
      clear hF; intro a hF
      refine L_nil ?_
      refine hK5 _ _ ?_
      by_cases q3 : (k.name.size : Int) > 100
      ·
        replace hF := hF.know (d := 26) (v' := .bool true) (by kernel_rfl) (congrArg Value.bool (decide_eq_true q3))
        refine cond_t hF (by kernel_rfl) (by kernel_rfl) ?_
        refine wp_seq_k fun K8 hK8 => ?_
        refine wp_region_lit ?_
        refine L_val hF (by kernel_rfl) (by kernel_rfl) (v := .bool true) (by kernel_rfl) (by kernel_rfl) ?_
        clear hF; intro a hF
        refine L_nil ?_
        refine hK8 _ _ ?_
        refine wp_ret ?_
        refine then_ret ?_
        -- way 3: ¬ (s.size : Int) > 100; ¬ (k.space.size : Int) > 100; (k.name.size : Int) > 100
        refine ret1 hF (v := .bool true) rfl (resT (by kernel_rfl)) (by refine ⟨?_, hO.nil⟩; first | rfl | (simp [*]; done)) .ret (.inl rfl)
      ·
        replace hF := hF.know (d := 26) (v' := .bool false) (by kernel_rfl) (congrArg Value.bool (decide_eq_false q3))
        refine cond_f hF (by kernel_rfl) (by kernel_rfl) ?_
        refine wp_skip ?_
        refine hK4 _ _ ?_
        refine wp_seq_k fun K9 hK9 => ?_
        refine wp_region_lit ?_
        refine L_val hF (by kernel_rfl) (by kernel_rfl) (v := .string s) (by kernel_rfl) (by kernel_rfl) ?_
        clear hF; intro a hF
        refine L_call hF (by kernel_rfl) (by kernel_rfl) (by kernel_rfl) (by kernel_rfl) (names_Parse_some I ea m s k0 W2 (by (first | omega | (simp only [ByteArray.size_append, sz, List.length_cons, List.length_nil]; omega))) (hO.oldCell (lt_of_cell hM) (fun h => h) hM) (hE.own hO) h5 hp) ?_
        clear hF; rintro _ W3 a ⟨rfl, hk⟩ hF
        replace hO := hO.call0 hk; clear hk
        refine L_val hF (by kernel_rfl) (by kernel_rfl) (v := .tuple #[keyV k0, .nilIface]) (by kernel_rfl) (by kernel_rfl) ?_
        clear hF; intro a hF
        refine L_val hF (by kernel_rfl) (by kernel_rfl) (v := keyV k0) (by kernel_rfl) (by kernel_rfl) ?_
        clear hF; intro a hF
        refine L_val hF (by kernel_rfl) (by kernel_rfl) (v := .nilIface) (by kernel_rfl) (by kernel_rfl) ?_
        clear hF; intro a hF
        refine L_new hF hO (by kernel_rfl) (by kernel_rfl) (vf := fun b => .pointer (some ⟨b, 0, none⟩)) (ob := .cells #[.string (⟨#[]⟩ : ByteArray), .string (⟨#[]⟩ : ByteArray)] 23) (by kernel_rfl) (by kernel_rfl) ?_
        clear hF hO; intro b2 W4 a hO hF
        obtain ⟨W5, hst, hO1⟩ := run_storeAt (P := Tryd.prog) (k := 2) (T := 23) (off := 0) (v := keyV k0) (cs := #[.string (⟨#[]⟩ : ByteArray), .string (⟨#[]⟩ : ByteArray)]) (cs' := #[.string k0.space, .string k0.name]) hO (by kernel_rfl) (by kernel_rfl) (by kernel_rfl) (Nat.le_of_ble_eq_true (by kernel_rfl)) (by kernel_rfl) (.head _)
        refine L_skip hF (by kernel_rfl) (by kernel_rfl) (x_store (p := .pointer (some ⟨b2, 0, none⟩)) (v := keyV k0) rfl (by kernel_rfl) (by kernel_rfl) hst) (by kernel_rfl) ?_
        clear hst hF; intro a hF; replace hO := hO1; clear hO1
        refine L_val hF (by kernel_rfl) (by kernel_rfl) (v := .nilIface) (by kernel_rfl) (by kernel_rfl) ?_
        clear hF; intro a hF
        refine L_nil ?_
        refine hK9 _ _ ?_
        refine wp_seq_k fun K10 hK10 => ?_
        refine wp_region_lit ?_
        refine L_val hF (by kernel_rfl) (by kernel_rfl) (v := .string s) (by kernel_rfl) (by kernel_rfl) ?_
        clear hF; intro a hF
        refine L_call hF (by kernel_rfl) (by kernel_rfl) (by kernel_rfl) (by kernel_rfl) ((ref05_Parse s W5 (by omega)).mono fun v W' h => (⟨by rw [h.1, hp]; rfl, h.2⟩ : v = .tuple #[keyV k0, .bool true] ∧ Own W5 noX [] W')) ?_
        clear hF; rintro _ W6 a ⟨rfl, hk⟩ hF
        replace hO := hO.call0 hk; clear hk
        refine L_val hF (by kernel_rfl) (by kernel_rfl) (v := .tuple #[keyV k0, .bool true]) (by kernel_rfl) (by kernel_rfl) ?_
        clear hF; intro a hF
        refine L_val hF (by kernel_rfl) (by kernel_rfl) (v := keyV k0) (by kernel_rfl) (by kernel_rfl) ?_
        clear hF; intro a hF
        refine L_val hF (by kernel_rfl) (by kernel_rfl) (v := .bool true) (by kernel_rfl) (by kernel_rfl) ?_
        clear hF; intro a hF
        refine L_new hF hO (by kernel_rfl) (by kernel_rfl) (vf := fun b => .pointer (some ⟨b, 0, none⟩)) (ob := .cells #[.string (⟨#[]⟩ : ByteArray), .string (⟨#[]⟩ : ByteArray)] 23) (by kernel_rfl) (by kernel_rfl) ?_
        clear hF hO; intro b3 W7 a hO hF
        obtain ⟨W8, hst, hO1⟩ := run_storeAt (P := Tryd.prog) (k := 2) (T := 23) (off := 0) (v := keyV k0) (cs := #[.string (⟨#[]⟩ : ByteArray), .string (⟨#[]⟩ : ByteArray)]) (cs' := #[.string k0.space, .string k0.name]) hO (by kernel_rfl) (by kernel_rfl) (by kernel_rfl) (Nat.le_of_ble_eq_true (by kernel_rfl)) (by kernel_rfl) (.head _)
        refine L_skip hF (by kernel_rfl) (by kernel_rfl) (x_store (p := .pointer (some ⟨b3, 0, none⟩)) (v := keyV k0) rfl (by kernel_rfl) (by kernel_rfl) hst) (by kernel_rfl) ?_
        clear hst hF; intro a hF; replace hO := hO1; clear hO1
        refine L_val hF (by kernel_rfl) (by kernel_rfl) (v := .bool true) (by kernel_rfl) (by kernel_rfl) ?_
        clear hF; intro a hF
        refine L_nil ?_
        refine hK10 _ _ ?_
        refine wp_seq_k fun K11 hK11 => ?_
        refine wp_seq_k fun K12 hK12 => ?_
        refine A_start (fun Wx => Own W noX [.blk b3 (.cells #[.string k0.space, .string k0.name] 23 (0, 0)), .blk b2 (.cells #[.string k0.space, .string k0.name] 23 (0, 0)), .blk b1 (.cells #[.string k.space, .string k.name] 23 (0, 0))] Wx) (by kernel_rfl) ?_
        replace hO := hO.drewN 1
        generalize hWd : ({ W8 with drawn := W8.drawn + 1 } : World) = W8_d at hO ⊢; clear hWd
        refine A_take (i := 0) (listed' := #[true, false, false, false, false, false, false, false, false, false, false, false, false, false, false, false, false, false, false, false, false, false, false, false, false, false, false, false, false, false, false, false]) rfl (by kernel_rfl) (by kernel_rfl) (by kernel_rfl) (by kernel_rfl) hF (by kernel_rfl) (by kernel_rfl) (v := .string s) (fun Wx _ => by kernel_rfl) (by kernel_rfl) (hO.sub (.cons_cons _ (.cons_cons _ (.cons_cons _ (List.nil_sublist _))))) ?_
        clear hF; intro a hF
        refine A_take (i := 2) (listed' := #[true, false, true, false, false, false, false, false, false, false, false, false, false, false, false, false, false, false, false, false, false, false, false, false, false, false, false, false, false, false, false, false]) rfl (by kernel_rfl) (by kernel_rfl) (by kernel_rfl) (by kernel_rfl) hF (by kernel_rfl) (by kernel_rfl) (v := .string s) (fun Wx _ => by kernel_rfl) (by kernel_rfl) (hO.sub (.cons_cons _ (.cons_cons _ (.cons_cons _ (List.nil_sublist _))))) ?_
        clear hF; intro a hF
        refine A_one (i := 1) (listed' := #[true, true, true, false, false, false, false, false, false, false, false, false, false, false, false, false, false, false, false, false, false, false, false, false, false, false, false, false, false, false, false, false]) (by kernel_rfl) rfl (by kernel_rfl) ?_
        refine OpK.call hF (by kernel_rfl) (by kernel_rfl) (by kernel_rfl) (by kernel_rfl) (names_Label s W8_d (by omega)) ?_
        clear hF; rintro _ W9 a ⟨rfl, hk⟩ hF
        replace hO := hO.call0 hk; clear hk
        refine ⟨hO.sub (.cons_cons _ (.cons_cons _ (.cons_cons _ (List.nil_sublist _)))), ?_⟩
        refine A_one (i := 3) (listed' := #[true, true, true, true, false, false, false, false, false, false, false, false, false, false, false, false, false, false, false, false, false, false, false, false, false, false, false, false, false, false, false, false]) (by kernel_rfl) rfl (by kernel_rfl) ?_
        refine OpK.call hF (by kernel_rfl) (by kernel_rfl) (by kernel_rfl) (by kernel_rfl) (ref05_Label s W9 (by omega)) ?_
        clear hF; rintro _ W10 a ⟨rfl, hk⟩ hF
        replace hO := hO.call0 hk; clear hk
        refine ⟨hO.sub (.cons_cons _ (.cons_cons _ (.cons_cons _ (List.nil_sublist _)))), ?_⟩
        refine A_take (i := 4) (listed' := #[true, true, true, true, true, false, false, false, false, false, false, false, false, false, false, false, false, false, false, false, false, false, false, false, false, false, false, false, false, false, false, false]) rfl (by kernel_rfl) (by kernel_rfl) (by kernel_rfl) (by kernel_rfl) hF (by kernel_rfl) (by kernel_rfl) (v := .bool false) (fun Wx _ => (x_bool (x := !((labelB s) == (labelB s))) (notF (beq_self_eq_true _)) (by kernel_rfl))) (by kernel_rfl) (hO.sub (.cons_cons _ (.cons_cons _ (.cons_cons _ (List.nil_sublist _))))) ?_
        clear hF; intro a hF
        refine A_take (i := 5) (listed' := #[true, true, true, true, true, true, false, false, false, false, false, false, false, false, false, false, false, false, false, false, false, false, false, false, false, false, false, false, false, false, false, false]) rfl (by kernel_rfl) (by kernel_rfl) (by kernel_rfl) (by kernel_rfl) hF (by kernel_rfl) (by kernel_rfl) (v := .bool false) (fun Wx _ => by kernel_rfl) (by kernel_rfl) (hO.sub (.cons_cons _ (.cons_cons _ (.cons_cons _ (List.nil_sublist _))))) ?_
        clear hF; intro a hF
        refine A_take (i := 6) (listed' := #[true, true, true, true, true, true, true, false, false, false, false, false, false, false, false, false, false, false, false, false, false, false, false, false, false, false, false, false, false, false, false, false]) rfl (by kernel_rfl) (by kernel_rfl) (by kernel_rfl) (by kernel_rfl) hF (by kernel_rfl) (by kernel_rfl) (v := .agg #[.string k.space, .string k.name]) (fun Wx hO => x_load (p := .pointer (some ⟨b1, 0, none⟩)) rfl (by kernel_rfl) (run_loadA (k := 2) (by kernel_rfl) (by kernel_rfl) (hO.blk (List.mem_cons_of_mem _ (List.mem_cons_of_mem _ List.mem_cons_self))) (by kernel_rfl) (by kernel_rfl))) (by kernel_rfl) (hO.sub (.cons_cons _ (.cons_cons _ (.cons_cons _ (List.nil_sublist _))))) ?_
        clear hF; intro a hF
        refine A_take (i := 8) (listed' := #[true, true, true, true, true, true, true, false, true, false, false, false, false, false, false, false, false, false, false, false, false, false, false, false, false, false, false, false, false, false, false, false]) rfl (by kernel_rfl) (by kernel_rfl) (by kernel_rfl) (by kernel_rfl) hF (by kernel_rfl) (by kernel_rfl) (v := .agg #[.string k.space, .string k.name]) (fun Wx hO => x_load (p := .pointer (some ⟨b1, 0, none⟩)) rfl (by kernel_rfl) (run_loadA (k := 2) (by kernel_rfl) (by kernel_rfl) (hO.blk (List.mem_cons_of_mem _ (List.mem_cons_of_mem _ List.mem_cons_self))) (by kernel_rfl) (by kernel_rfl))) (by kernel_rfl) (hO.sub (.cons_cons _ (.cons_cons _ (.cons_cons _ (List.nil_sublist _))))) ?_
        clear hF; intro a hF
        refine A_one (i := 7) (listed' := #[true, true, true, true, true, true, true, true, true, false, false, false, false, false, false, false, false, false, false, false, false, false, false, false, false, false, false, false, false, false, false, false]) (by kernel_rfl) rfl (by kernel_rfl) ?_
        refine OpK.call hF (by kernel_rfl) (by kernel_rfl) (by kernel_rfl) (by kernel_rfl) ((names_Key k W10 (by omega) (by omega)).mono fun v W' h => (⟨by rw [h.1, hk], h.2⟩ : v = .bool false ∧ Own W10 noX [] W')) ?_
        clear hF; rintro _ W11 a ⟨rfl, hk⟩ hF
        replace hO := hO.call0 hk; clear hk
        refine ⟨hO.sub (.cons_cons _ (.cons_cons _ (.cons_cons _ (List.nil_sublist _)))), ?_⟩
        refine A_one (i := 9) (listed' := #[true, true, true, true, true, true, true, true, true, true, false, false, false, false, false, false, false, false, false, false, false, false, false, false, false, false, false, false, false, false, false, false]) (by kernel_rfl) rfl (by kernel_rfl) ?_
        refine OpK.call hF (by kernel_rfl) (by kernel_rfl) (by kernel_rfl) (by kernel_rfl) ((ref05_Key k W11 (by omega) (by omega)).mono fun v W' h => (⟨by rw [h.1, hk], h.2⟩ : v = .bool false ∧ Own W11 noX [] W')) ?_
        clear hF; rintro _ W12 a ⟨rfl, hk⟩ hF
        replace hO := hO.call0 hk; clear hk
        refine ⟨hO.sub (.cons_cons _ (.cons_cons _ (.cons_cons _ (List.nil_sublist _)))), ?_⟩
        refine A_take (i := 10) (listed' := #[true, true, true, true, true, true, true, true, true, true, true, false, false, false, false, false, false, false, false, false, false, false, false, false, false, false, false, false, false, false, false, false]) rfl (by kernel_rfl) (by kernel_rfl) (by kernel_rfl) (by kernel_rfl) hF (by kernel_rfl) (by kernel_rfl) (v := .bool false) (fun Wx _ => by kernel_rfl) (by kernel_rfl) (hO.sub (.cons_cons _ (.cons_cons _ (.cons_cons _ (List.nil_sublist _))))) ?_
        clear hF; intro a hF
        refine A_take (i := 11) (listed' := #[true, true, true, true, true, true, true, true, true, true, true, true, false, false, false, false, false, false, false, false, false, false, false, false, false, false, false, false, false, false, false, false]) rfl (by kernel_rfl) (by kernel_rfl) (by kernel_rfl) (by kernel_rfl) hF (by kernel_rfl) (by kernel_rfl) (v := .bool false) (fun Wx _ => by kernel_rfl) (by kernel_rfl) (hO.sub (.cons_cons _ (.cons_cons _ (.cons_cons _ (List.nil_sublist _))))) ?_
        clear hF; intro a hF
        refine A_take (i := 12) (listed' := #[true, true, true, true, true, true, true, true, true, true, true, true, true, false, false, false, false, false, false, false, false, false, false, false, false, false, false, false, false, false, false, false]) rfl (by kernel_rfl) (by kernel_rfl) (by kernel_rfl) (by kernel_rfl) hF (by kernel_rfl) (by kernel_rfl) (v := .bool false) (fun Wx _ => by kernel_rfl) (by kernel_rfl) (hO.sub (.cons_cons _ (.cons_cons _ (.cons_cons _ (List.nil_sublist _))))) ?_
        clear hF; intro a hF
        refine A_take (i := 13) (listed' := #[true, true, true, true, true, true, true, true, true, true, true, true, true, true, false, false, false, false, false, false, false, false, false, false, false, false, false, false, false, false, false, false]) rfl (by kernel_rfl) (by kernel_rfl) (by kernel_rfl) (by kernel_rfl) hF (by kernel_rfl) (by kernel_rfl) (v := .agg #[.string k0.space, .string k0.name]) (fun Wx hO => x_load (p := .pointer (some ⟨b2, 0, none⟩)) rfl (by kernel_rfl) (run_loadA (k := 2) (by kernel_rfl) (by kernel_rfl) (hO.blk (List.mem_cons_of_mem _ List.mem_cons_self)) (by kernel_rfl) (by kernel_rfl))) (by kernel_rfl) (hO.sub (.cons_cons _ (.cons_cons _ (.cons_cons _ (List.nil_sublist _))))) ?_
        clear hF; intro a hF
        refine A_take (i := 14) (listed' := #[true, true, true, true, true, true, true, true, true, true, true, true, true, true, true, false, false, false, false, false, false, false, false, false, false, false, false, false, false, false, false, false]) rfl (by kernel_rfl) (by kernel_rfl) (by kernel_rfl) (by kernel_rfl) hF (by kernel_rfl) (by kernel_rfl) (v := .agg #[.string k0.space, .string k0.name]) (fun Wx hO => x_load (p := .pointer (some ⟨b3, 0, none⟩)) rfl (by kernel_rfl) (run_loadA (k := 2) (by kernel_rfl) (by kernel_rfl) (hO.blk List.mem_cons_self) (by kernel_rfl) (by kernel_rfl))) (by kernel_rfl) (hO.sub (.cons_cons _ (.cons_cons _ (.cons_cons _ (List.nil_sublist _))))) ?_
        clear hF; intro a hF
        refine A_take (i := 15) (listed' := #[true, true, true, true, true, true, true, true, true, true, true, true, true, true, true, true, false, false, false, false, false, false, false, false, false, false, false, false, false, false, false, false]) rfl (by kernel_rfl) (by kernel_rfl) (by kernel_rfl) (by kernel_rfl) hF (by kernel_rfl) (by kernel_rfl) (v := .bool false) (fun Wx _ => (x_bool (x := !(decide (k0 = k0))) (notF (decide_eq_true rfl)) (x_neKey (a := k0) (b := k0) rfl (by kernel_rfl) (by kernel_rfl)))) (by kernel_rfl) (hO.sub (.cons_cons _ (.cons_cons _ (.cons_cons _ (List.nil_sublist _))))) ?_
        clear hF; intro a hF
        refine A_take (i := 16) (listed' := #[true, true, true, true, true, true, true, true, true, true, true, true, true, true, true, true, true, false, false, false, false, false, false, false, false, false, false, false, false, false, false, false]) rfl (by kernel_rfl) (by kernel_rfl) (by kernel_rfl) (by kernel_rfl) hF (by kernel_rfl) (by kernel_rfl) (v := .bool false) (fun Wx _ => by kernel_rfl) (by kernel_rfl) (hO.sub (.cons_cons _ (.cons_cons _ (.cons_cons _ (List.nil_sublist _))))) ?_
        clear hF; intro a hF
        refine A_take (i := 17) (listed' := #[true, true, true, true, true, true, true, true, true, true, true, true, true, true, true, true, true, true, false, false, false, false, false, false, false, false, false, false, false, false, false, false]) rfl (by kernel_rfl) (by kernel_rfl) (by kernel_rfl) (by kernel_rfl) hF (by kernel_rfl) (by kernel_rfl) (v := .bool false) (fun Wx _ => by kernel_rfl) (by kernel_rfl) (hO.sub (.cons_cons _ (.cons_cons _ (.cons_cons _ (List.nil_sublist _))))) ?_
        clear hF; intro a hF
        refine A_take (i := 18) (listed' := #[true, true, true, true, true, true, true, true, true, true, true, true, true, true, true, true, true, true, true, false, false, false, false, false, false, false, false, false, false, false, false, false]) rfl (by kernel_rfl) (by kernel_rfl) (by kernel_rfl) (by kernel_rfl) hF (by kernel_rfl) (by kernel_rfl) (v := .nilIface) (fun Wx _ => by kernel_rfl) (by kernel_rfl) (hO.sub (.cons_cons _ (.cons_cons _ (.cons_cons _ (List.nil_sublist _))))) ?_
        clear hF; intro a hF
        refine A_take (i := 19) (listed' := #[true, true, true, true, true, true, true, true, true, true, true, true, true, true, true, true, true, true, true, true, false, false, false, false, false, false, false, false, false, false, false, false]) rfl (by kernel_rfl) (by kernel_rfl) (by kernel_rfl) (by kernel_rfl) hF (by kernel_rfl) (by kernel_rfl) (v := .bool true) (fun Wx _ => by kernel_rfl) (by kernel_rfl) (hO.sub (.cons_cons _ (.cons_cons _ (.cons_cons _ (List.nil_sublist _))))) ?_
        clear hF; intro a hF
        refine A_take (i := 20) (listed' := #[true, true, true, true, true, true, true, true, true, true, true, true, true, true, true, true, true, true, true, true, true, false, false, false, false, false, false, false, false, false, false, false]) rfl (by kernel_rfl) (by kernel_rfl) (by kernel_rfl) (by kernel_rfl) hF (by kernel_rfl) (by kernel_rfl) (v := .bool true) (fun Wx _ => by kernel_rfl) (by kernel_rfl) (hO.sub (.cons_cons _ (.cons_cons _ (.cons_cons _ (List.nil_sublist _))))) ?_
        clear hF; intro a hF
        refine A_take (i := 21) (listed' := #[true, true, true, true, true, true, true, true, true, true, true, true, true, true, true, true, true, true, true, true, true, true, false, false, false, false, false, false, false, false, false, false]) rfl (by kernel_rfl) (by kernel_rfl) (by kernel_rfl) (by kernel_rfl) hF (by kernel_rfl) (by kernel_rfl) (v := .bool false) (fun Wx _ => by kernel_rfl) (by kernel_rfl) (hO.sub (.cons_cons _ (.cons_cons _ (.cons_cons _ (List.nil_sublist _))))) ?_
        clear hF; intro a hF
        refine A_take (i := 22) (listed' := #[true, true, true, true, true, true, true, true, true, true, true, true, true, true, true, true, true, true, true, true, true, true, true, false, false, false, false, false, false, false, false, false]) rfl (by kernel_rfl) (by kernel_rfl) (by kernel_rfl) (by kernel_rfl) hF (by kernel_rfl) (by kernel_rfl) (v := .bool false) (fun Wx _ => by kernel_rfl) (by kernel_rfl) (hO.sub (.cons_cons _ (.cons_cons _ (.cons_cons _ (List.nil_sublist _))))) ?_
        clear hF; intro a hF
        refine A_take (i := 23) (listed' := #[true, true, true, true, true, true, true, true, true, true, true, true, true, true, true, true, true, true, true, true, true, true, true, true, false, false, false, false, false, false, false, false]) rfl (by kernel_rfl) (by kernel_rfl) (by kernel_rfl) (by kernel_rfl) hF (by kernel_rfl) (by kernel_rfl) (v := .bool false) (fun Wx _ => by kernel_rfl) (by kernel_rfl) (hO.sub (.cons_cons _ (.cons_cons _ (.cons_cons _ (List.nil_sublist _))))) ?_
        clear hF; intro a hF
        refine A_take (i := 24) (listed' := #[true, true, true, true, true, true, true, true, true, true, true, true, true, true, true, true, true, true, true, true, true, true, true, true, true, false, false, false, false, false, false, false]) rfl (by kernel_rfl) (by kernel_rfl) (by kernel_rfl) (by kernel_rfl) hF (by kernel_rfl) (by kernel_rfl) (v := .bool true) (fun Wx _ => by kernel_rfl) (by kernel_rfl) (hO.sub (.cons_cons _ (.cons_cons _ (.cons_cons _ (List.nil_sublist _))))) ?_
        clear hF; intro a hF
        refine A_take (i := 25) (listed' := #[true, true, true, true, true, true, true, true, true, true, true, true, true, true, true, true, true, true, true, true, true, true, true, true, true, true, false, false, false, false, false, false]) rfl (by kernel_rfl) (by kernel_rfl) (by kernel_rfl) (by kernel_rfl) hF (by kernel_rfl) (by kernel_rfl) (v := .bool false) (fun Wx _ => by kernel_rfl) (by kernel_rfl) (hO.sub (.cons_cons _ (.cons_cons _ (.cons_cons _ (List.nil_sublist _))))) ?_
        clear hF; intro a hF
        refine A_take (i := 26) (listed' := #[true, true, true, true, true, true, true, true, true, true, true, true, true, true, true, true, true, true, true, true, true, true, true, true, true, true, true, false, false, false, false, false]) rfl (by kernel_rfl) (by kernel_rfl) (by kernel_rfl) (by kernel_rfl) hF (by kernel_rfl) (by kernel_rfl) (v := .bool false) (fun Wx _ => by kernel_rfl) (by kernel_rfl) (hO.sub (.cons_cons _ (.cons_cons _ (.cons_cons _ (List.nil_sublist _))))) ?_
        clear hF; intro a hF
        refine A_takeOff (i := 27) (listed' := #[true, true, true, true, true, true, true, true, true, true, true, true, true, true, true, true, true, true, true, true, true, true, true, true, true, true, true, true, false, false, false, false]) rfl (by kernel_rfl) (by kernel_rfl) (by kernel_rfl) (by kernel_rfl) hF (by kernel_rfl) (by kernel_rfl) (hO.sub (.cons_cons _ (.cons_cons _ (.cons_cons _ (List.nil_sublist _))))) ?_
        clear hF; intro a hF
        refine A_takeOff (i := 28) (listed' := #[true, true, true, true, true, true, true, true, true, true, true, true, true, true, true, true, true, true, true, true, true, true, true, true, true, true, true, true, true, false, false, false]) rfl (by kernel_rfl) (by kernel_rfl) (by kernel_rfl) (by kernel_rfl) hF (by kernel_rfl) (by kernel_rfl) (hO.sub (.cons_cons _ (.cons_cons _ (.cons_cons _ (List.nil_sublist _))))) ?_
        clear hF; intro a hF
        refine A_takeOff (i := 29) (listed' := #[true, true, true, true, true, true, true, true, true, true, true, true, true, true, true, true, true, true, true, true, true, true, true, true, true, true, true, true, true, true, false, false]) rfl (by kernel_rfl) (by kernel_rfl) (by kernel_rfl) (by kernel_rfl) hF (by kernel_rfl) (by kernel_rfl) (hO.sub (.cons_cons _ (.cons_cons _ (.cons_cons _ (List.nil_sublist _))))) ?_
        clear hF; intro a hF
        refine A_take (i := 30) (listed' := #[true, true, true, true, true, true, true, true, true, true, true, true, true, true, true, true, true, true, true, true, true, true, true, true, true, true, true, true, true, true, true, false]) rfl (by kernel_rfl) (by kernel_rfl) (by kernel_rfl) (by kernel_rfl) hF (by kernel_rfl) (by kernel_rfl) (v := .bool false) (fun Wx _ => by kernel_rfl) (by kernel_rfl) (hO.sub (.cons_cons _ (.cons_cons _ (.cons_cons _ (List.nil_sublist _))))) ?_
        clear hF; intro a hF
        refine A_take (i := 31) (listed' := #[true, true, true, true, true, true, true, true, true, true, true, true, true, true, true, true, true, true, true, true, true, true, true, true, true, true, true, true, true, true, true, true]) rfl (by kernel_rfl) (by kernel_rfl) (by kernel_rfl) (by kernel_rfl) hF (by kernel_rfl) (by kernel_rfl) (v := .bool false) (fun Wx _ => by kernel_rfl) (by kernel_rfl) (hO.sub (.cons_cons _ (.cons_cons _ (.cons_cons _ (List.nil_sublist _))))) ?_
        clear hF; intro a hF
        refine A_done (by kernel_rfl) ?_
        refine hK12 _ _ ?_
        refine cond_f hF (by kernel_rfl) (by kernel_rfl) ?_
        refine wp_skip ?_
        refine hK11 _ _ ?_
        refine wp_seq_k fun K13 hK13 => ?_
        refine wp_seq_k fun K14 hK14 => ?_
        refine wp_region_lit ?_
        refine L_val hF (by kernel_rfl) (by kernel_rfl) (v := .agg #[.string k.space, .string k.name]) (x_load (p := .pointer (some ⟨b1, 0, none⟩)) rfl (by kernel_rfl) (run_loadA (k := 2) (by kernel_rfl) (by kernel_rfl) (hO.blk (List.mem_cons_of_mem _ (List.mem_cons_of_mem _ List.mem_cons_self))) (by kernel_rfl) (by kernel_rfl))) (by kernel_rfl) ?_
        clear hF; intro a hF
        refine L_call hF (by kernel_rfl) (by kernel_rfl) (by kernel_rfl) (by kernel_rfl) ((ref05_Key k W12 (by omega) (by omega)).mono fun v W' h => (⟨by rw [h.1, hk], h.2⟩ : v = .bool false ∧ Own W12 noX [] W')) ?_
        clear hF; rintro _ W13 a ⟨rfl, hk⟩ hF
        replace hO := hO.call0 hk; clear hk
        refine L_val hF (by kernel_rfl) (by kernel_rfl) (v := .bool true) (by kernel_rfl) (by kernel_rfl) ?_
        clear hF; intro a hF
        refine L_nil ?_
        refine hK14 _ _ ?_
        refine cond_t hF (by kernel_rfl) (by kernel_rfl) ?_
        refine wp_seq_k fun K15 hK15 => ?_
        refine wp_region_lit ?_
        refine L_val hF (by kernel_rfl) (by kernel_rfl) (v := .agg #[.string k.space, .string k.name]) (x_load (p := .pointer (some ⟨b1, 0, none⟩)) rfl (by kernel_rfl) (run_loadA (k := 2) (by kernel_rfl) (by kernel_rfl) (hO.blk (List.mem_cons_of_mem _ (List.mem_cons_of_mem _ List.mem_cons_self))) (by kernel_rfl) (by kernel_rfl))) (by kernel_rfl) ?_
        clear hF; intro a hF
        refine L_call hF (by kernel_rfl) (by kernel_rfl) (by kernel_rfl) (by kernel_rfl) ((names_Format k W13 (by omega) (by omega)).mono fun v W' h => (⟨by rw [h.1, fmtKey, if_neg (ne_true_of_eq_false hk)], h.2⟩ : v = .string (⟨#[]⟩ : ByteArray) ∧ Own W13 noX [] W')) ?_
        clear hF; rintro _ W14 a ⟨rfl, hk⟩ hF
        replace hO := hO.call0 hk; clear hk
        refine L_val hF (by kernel_rfl) (by kernel_rfl) (v := .bool true) (x_bool (x := strEq (⟨#[]⟩ : ByteArray) (⟨#[]⟩ : ByteArray)) (strEq_refl _) (by kernel_rfl)) (by kernel_rfl) ?_
        clear hF; intro a hF
        refine L_val hF (by kernel_rfl) (by kernel_rfl) (v := .bool true) (by kernel_rfl) (by kernel_rfl) ?_
        clear hF; intro a hF
        refine L_nil ?_
        refine hK15 _ _ ?_
        refine wp_ret ?_
        refine then_ret ?_
        -- way 4: ¬ (s.size : Int) > 100; ¬ (k.space.size : Int) > 100; ¬ (k.name.size : Int) > 100
        refine ret1 hF (v := .bool true) rfl (resT (by kernel_rfl)) (by refine ⟨?_, hO.nil⟩; first | rfl | (simp [*]; done)) .ret (.inl rfl)

set_option maxRecDepth 20000 in
theorem law05_NamesKeys_ny (I : List Nat) (ea : Nat → Addr) (m : Int) (s : ByteArray) (k : Key) (W : World) (hM : W.cell? ⟨18, 0, none⟩ = some (.int .i64 m)) (hE : Errs I ea W) (h5 : I.contains 5 = true) (hI : I = errIs) (hp : parseKey s = none) (hk : keyB k = true) : Ret Tryd.prog 3 #[.string s, keyV k] W fun v W' => v = .bool true ∧ Own W noX [] W' := by
  refine enter Tryd.func3 rfl (n := 99) rfl (by kernel_rfl) (E0 := [(1, keyV k), (0, .string s)]) (by kernel_rfl) ?_
  intro a hF; have hO := Own.start W noX
  refine wp_seq_k fun K1 hK1 => ?_
  refine wp_region_lit ?_
  refine L_new hF hO (by kernel_rfl) (by kernel_rfl) (vf := fun b => .pointer (some ⟨b, 0, none⟩)) (ob := .cells #[.string k.space, .string k.name] 23) (by kernel_rfl) (by kernel_rfl) ?_
  clear hF hO; intro b1 W1 a hO hF
  refine L_val hF (by kernel_rfl) (by kernel_rfl) (v := .bool false) (by kernel_rfl) (by kernel_rfl) ?_
  clear hF; intro a hF
  refine L_nil ?_
  refine hK1 _ _ ?_
  refine wp_seq_k fun K2 hK2 => ?_
  refine wp_seq_k fun K3 hK3 => ?_
  refine wp_region_lit ?_
  refine L_call hF (by kernel_rfl) (by kernel_rfl) (by kernel_rfl) (by kernel_rfl) (law05_alive I ea m W1 (hO.oldCell (lt_of_cell hM) (fun h => h) hM) (hE.own hO) h5) ?_
  clear hF; rintro _ W2 a ⟨rfl, hk⟩ hF
  replace hO := hO.call0 hk; clear hk
  refine L_val hF (by kernel_rfl) (by kernel_rfl) (v := .bool false) (by kernel_rfl) (by kernel_rfl) ?_
  clear hF; intro a hF
  refine L_nil ?_
  refine hK3 _ _ ?_
  refine cond_f hF (by kernel_rfl) (by kernel_rfl) ?_
  refine wp_skip ?_
  refine hK2 _ _ ?_
  refine wp_seq_k fun K4 hK4 => ?_
  refine wp_seq_k fun K5 hK5 => ?_
  refine wp_region_lit ?_
  refine L_val hF (by kernel_rfl) (by kernel_rfl) (v := .string s) (by kernel_rfl) (by kernel_rfl) ?_
  clear hF; intro a hF
  refine L_val hF (by kernel_rfl) (by kernel_rfl) (v := .int .i64 ((s.size : Int))) (by kernel_rfl) (by kernel_rfl) ?_
  clear hF; intro a hF
  refine L_val hF (by kernel_rfl) (by kernel_rfl) (v := .bool (decide ((s.size : Int) > 100))) (by kernel_rfl) (by kernel_rfl) ?_
  clear hF; intro a hF
  refine L_val hF (by kernel_rfl) (by kernel_rfl) (v := .bool (decide ((s.size : Int) > 100))) (by kernel_rfl) (by kernel_rfl) ?_
  clear hF; intro a hF
  by_cases q1 : (s.size : Int) > 100
  ·
    replace hF := hF.know (d := 15) (v' := .bool true) (by kernel_rfl) (congrArg Value.bool (decide_eq_true q1))
    refine L_off hF (by kernel_rfl) (by kernel_rfl) ?_
    clear hF; intro a hF
    refine L_off hF (by kernel_rfl) (by kernel_rfl) ?_
    clear hF; intro a hF
    refine L_off hF (by kernel_rfl) (by kernel_rfl) ?_
    clear hF; intro a hF
    refine L_off hF (by kernel_rfl) (by kernel_rfl) ?_
    clear hF; intro a hF
    refine L_val hF (by kernel_rfl) (by kernel_rfl) (v := .bool true) (by kernel_rfl) (by kernel_rfl) ?_
    clear hF; intro a hF
    refine L_val hF (by kernel_rfl) (by kernel_rfl) (v := .bool true) (by kernel_rfl) (by kernel_rfl) ?_
    clear hF; intro a hF
    refine L_off hF (by kernel_rfl) (by kernel_rfl) ?_
    clear hF; intro a hF
    refine L_off hF (by kernel_rfl) (by kernel_rfl) ?_
    clear hF; intro a hF
    refine L_off hF (by kernel_rfl) (by kernel_rfl) ?_
    clear hF; intro a hF
    refine L_off hF (by kernel_rfl) (by kernel_rfl) ?_
    clear hF; intro a hF
    refine L_val hF (by kernel_rfl) (by kernel_rfl) (v := .bool true) (by kernel_rfl) (by kernel_rfl) ?_
    clear hF; intro a hF
    refine L_nil ?_
    refine hK5 _ _ ?_
    refine cond_t hF (by kernel_rfl) (by kernel_rfl) ?_
    refine wp_seq_k fun K6 hK6 => ?_
    refine wp_region_lit ?_
    refine L_val hF (by kernel_rfl) (by kernel_rfl) (v := .bool true) (by kernel_rfl) (by kernel_rfl) ?_
    clear hF; intro a hF
    refine L_nil ?_
    refine hK6 _ _ ?_
    refine wp_ret ?_
    refine then_ret ?_
    -- way 1: (s.size : Int) > 100
    refine ret1 hF (v := .bool true) rfl (resT (by kernel_rfl)) (by refine ⟨?_, hO.nil⟩; first | rfl | (simp [*]; done)) .ret (.inl rfl)
  ·
    replace hF := hF.know (d := 15) (v' := .bool false) (by kernel_rfl) (congrArg Value.bool (decide_eq_false q1))
    refine L_val hF (by kernel_rfl) (by kernel_rfl) (v := .pointer (some ⟨b1, 0, none⟩)) (by kernel_rfl) (by kernel_rfl) ?_
    clear hF; intro a hF
    refine L_val hF (by kernel_rfl) (by kernel_rfl) (v := .string k.space) (x_load (p := .pointer (some ⟨b1, 0, none⟩)) rfl (by kernel_rfl) (run_load1 (by kernel_rfl) ((hO.cell List.mem_cons_self).trans (by kernel_rfl)))) (by kernel_rfl) ?_
    clear hF; intro a hF
    refine L_val hF (by kernel_rfl) (by kernel_rfl) (v := .int .i64 ((k.space.size : Int))) (by kernel_rfl) (by kernel_rfl) ?_
    clear hF; intro a hF
    refine L_val hF (by kernel_rfl) (by kernel_rfl) (v := .bool (decide ((k.space.size : Int) > 100))) (by kernel_rfl) (by kernel_rfl) ?_
    clear hF; intro a hF
    refine L_val hF (by kernel_rfl) (by kernel_rfl) (v := .bool (decide ((k.space.size : Int) > 100))) (by kernel_rfl) (by kernel_rfl) ?_
    clear hF; intro a hF
    refine L_val hF (by kernel_rfl) (by kernel_rfl) (v := .bool (decide ((k.space.size : Int) > 100))) (by kernel_rfl) (by kernel_rfl) ?_
    clear hF; intro a hF
    by_cases q2 : (k.space.size : Int) > 100
    ·
      replace hF := hF.know (d := 21) (v' := .bool true) (by kernel_rfl) (congrArg Value.bool (decide_eq_true q2))
      refine L_off hF (by kernel_rfl) (by kernel_rfl) ?_
      clear hF; intro a hF
      refine L_off hF (by kernel_rfl) (by kernel_rfl) ?_
      clear hF; intro a hF
      refine L_off hF (by kernel_rfl) (by kernel_rfl) ?_
      clear hF; intro a hF
      refine L_off hF (by kernel_rfl) (by kernel_rfl) ?_
      clear hF; intro a hF
      refine L_val hF (by kernel_rfl) (by kernel_rfl) (v := .bool true) (by kernel_rfl) (by kernel_rfl) ?_
      clear hF; intro a hF
      refine L_nil ?_
      refine hK5 _ _ ?_
      refine cond_t hF (by kernel_rfl) (by kernel_rfl) ?_
      refine wp_seq_k fun K7 hK7 => ?_
      refine wp_region_lit ?_
      refine L_val hF (by kernel_rfl) (by kernel_rfl) (v := .bool true) (by kernel_rfl) (by kernel_rfl) ?_
      clear hF; intro a hF
      refine L_nil ?_
      refine hK7 _ _ ?_
      refine wp_ret ?_
      refine then_ret ?_
      -- way 2: ¬ (s.size : Int) > 100; (k.space.size : Int) > 100
      refine ret1 hF (v := .bool true) rfl (resT (by kernel_rfl)) (by refine ⟨?_, hO.nil⟩; first | rfl | (simp [*]; done)) .ret (.inl rfl)
    ·
      replace hF := hF.know (d := 21) (v' := .bool false) (by kernel_rfl) (congrArg Value.bool (decide_eq_false q2))
      refine L_val hF (by kernel_rfl) (by kernel_rfl) (v := .pointer (some ⟨b1, 1, none⟩)) (by kernel_rfl) (by kernel_rfl) ?_
      clear hF; intro a hF
      refine L_val hF (by kernel_rfl) (by kernel_rfl) (v := .string k.name) (x_load (p := .pointer (some ⟨b1, 1, none⟩)) rfl (by kernel_rfl) (run_load1 (by kernel_rfl) ((hO.cell List.mem_cons_self).trans (by kernel_rfl)))) (by kernel_rfl) ?_
      clear hF; intro a hF
      refine L_val hF (by kernel_rfl) (by kernel_rfl) (v := .int .i64 ((k.name.size : Int))) (by kernel_rfl) (by kernel_rfl) ?_
      clear hF; intro a hF
      refine L_val hF (by kernel_rfl) (by kernel_rfl) (v := .bool (decide ((k.name.size : Int) > 100))) (by kernel_rfl) (by kernel_rfl) ?_
      clear hF; intro a hF
      refine L_val hF (by kernel_rfl) (by kernel_rfl) (v := .bool (decide ((k.name.size : Int) > 100))) (by kernel_rfl) (by kernel_rfl) ?_
      clear hF; intro a hF
      refine L_nil ?_
      refine hK5 _ _ ?_
      by_cases q3 : (k.name.size : Int) > 100
      ·
        replace hF := hF.know (d := 26) (v' := .bool true) (by kernel_rfl) (congrArg Value.bool (decide_eq_true q3))
        refine cond_t hF (by kernel_rfl) (by kernel_rfl) ?_
        refine wp_seq_k fun K8 hK8 => ?_
        refine wp_region_lit ?_
        refine L_val hF (by kernel_rfl) (by kernel_rfl) (v := .bool true) (by kernel_rfl) (by kernel_rfl) ?_
        clear hF; intro a hF
        refine L_nil ?_
        refine hK8 _ _ ?_
        refine wp_ret ?_
        refine then_ret ?_
        -- way 3: ¬ (s.size : Int) > 100; ¬ (k.space.size : Int) > 100; (k.name.size : Int) > 100
        refine ret1 hF (v := .bool true) rfl (resT (by kernel_rfl)) (by refine ⟨?_, hO.nil⟩; first | rfl | (simp [*]; done)) .ret (.inl rfl)
      ·
        replace hF := hF.know (d := 26) (v' := .bool false) (by kernel_rfl) (congrArg Value.bool (decide_eq_false q3))
        refine cond_f hF (by kernel_rfl) (by kernel_rfl) ?_
        refine wp_skip ?_
        refine hK4 _ _ ?_
        refine wp_seq_k fun K9 hK9 => ?_
        refine wp_region_lit ?_
        refine L_val hF (by kernel_rfl) (by kernel_rfl) (v := .string s) (by kernel_rfl) (by kernel_rfl) ?_
        clear hF; intro a hF
        refine L_call hF (by kernel_rfl) (by kernel_rfl) (by kernel_rfl) (by kernel_rfl) (names_Parse_none I ea m s W2 (by (first | omega | (simp only [ByteArray.size_append, sz, List.length_cons, List.length_nil]; omega))) (hO.oldCell (lt_of_cell hM) (fun h => h) hM) (hE.own hO) h5 hp) ?_
        clear hF; rintro _ W3 a ⟨rfl, hk⟩ hF
        replace hO := hO.call0 hk; clear hk
        refine L_val hF (by kernel_rfl) (by kernel_rfl) (v := .tuple #[keyV noKey, errV ea 5]) (by kernel_rfl) (by kernel_rfl) ?_
        clear hF; intro a hF
        refine L_val hF (by kernel_rfl) (by kernel_rfl) (v := keyV noKey) (by kernel_rfl) (by kernel_rfl) ?_
        clear hF; intro a hF
        refine L_val hF (by kernel_rfl) (by kernel_rfl) (v := errV ea 5) (by kernel_rfl) (by kernel_rfl) ?_
        clear hF; intro a hF
        refine L_new hF hO (by kernel_rfl) (by kernel_rfl) (vf := fun b => .pointer (some ⟨b, 0, none⟩)) (ob := .cells #[.string (⟨#[]⟩ : ByteArray), .string (⟨#[]⟩ : ByteArray)] 23) (by kernel_rfl) (by kernel_rfl) ?_
        clear hF hO; intro b2 W4 a hO hF
        obtain ⟨W5, hst, hO1⟩ := run_storeAt (P := Tryd.prog) (k := 2) (T := 23) (off := 0) (v := keyV noKey) (cs := #[.string (⟨#[]⟩ : ByteArray), .string (⟨#[]⟩ : ByteArray)]) (cs' := #[.string noKey.space, .string noKey.name]) hO (by kernel_rfl) (by kernel_rfl) (by kernel_rfl) (Nat.le_of_ble_eq_true (by kernel_rfl)) (by kernel_rfl) (.head _)
        refine L_skip hF (by kernel_rfl) (by kernel_rfl) (x_store (p := .pointer (some ⟨b2, 0, none⟩)) (v := keyV noKey) rfl (by kernel_rfl) (by kernel_rfl) hst) (by kernel_rfl) ?_
        clear hst hF; intro a hF; replace hO := hO1; clear hO1
        refine L_val hF (by kernel_rfl) (by kernel_rfl) (v := errV ea 5) (by kernel_rfl) (by kernel_rfl) ?_
        clear hF; intro a hF
        refine L_nil ?_
        refine hK9 _ _ ?_
        refine wp_seq_k fun K10 hK10 => ?_
        refine wp_region_lit ?_
        refine L_val hF (by kernel_rfl) (by kernel_rfl) (v := .string s) (by kernel_rfl) (by kernel_rfl) ?_
        clear hF; intro a hF
        refine L_call hF (by kernel_rfl) (by kernel_rfl) (by kernel_rfl) (by kernel_rfl) ((ref05_Parse s W5 (by omega)).mono fun v W' h => (⟨by rw [h.1, hp]; rfl, h.2⟩ : v = .tuple #[keyV noKey, .bool false] ∧ Own W5 noX [] W')) ?_
        clear hF; rintro _ W6 a ⟨rfl, hk⟩ hF
        replace hO := hO.call0 hk; clear hk
        refine L_val hF (by kernel_rfl) (by kernel_rfl) (v := .tuple #[keyV noKey, .bool false]) (by kernel_rfl) (by kernel_rfl) ?_
        clear hF; intro a hF
        refine L_val hF (by kernel_rfl) (by kernel_rfl) (v := keyV noKey) (by kernel_rfl) (by kernel_rfl) ?_
        clear hF; intro a hF
        refine L_val hF (by kernel_rfl) (by kernel_rfl) (v := .bool false) (by kernel_rfl) (by kernel_rfl) ?_
        clear hF; intro a hF
        refine L_new hF hO (by kernel_rfl) (by kernel_rfl) (vf := fun b => .pointer (some ⟨b, 0, none⟩)) (ob := .cells #[.string (⟨#[]⟩ : ByteArray), .string (⟨#[]⟩ : ByteArray)] 23) (by kernel_rfl) (by kernel_rfl) ?_
        clear hF hO; intro b3 W7 a hO hF
        obtain ⟨W8, hst, hO1⟩ := run_storeAt (P := Tryd.prog) (k := 2) (T := 23) (off := 0) (v := keyV noKey) (cs := #[.string (⟨#[]⟩ : ByteArray), .string (⟨#[]⟩ : ByteArray)]) (cs' := #[.string noKey.space, .string noKey.name]) hO (by kernel_rfl) (by kernel_rfl) (by kernel_rfl) (Nat.le_of_ble_eq_true (by kernel_rfl)) (by kernel_rfl) (.head _)
        refine L_skip hF (by kernel_rfl) (by kernel_rfl) (x_store (p := .pointer (some ⟨b3, 0, none⟩)) (v := keyV noKey) rfl (by kernel_rfl) (by kernel_rfl) hst) (by kernel_rfl) ?_
        clear hst hF; intro a hF; replace hO := hO1; clear hO1
        refine L_val hF (by kernel_rfl) (by kernel_rfl) (v := .bool false) (by kernel_rfl) (by kernel_rfl) ?_
        clear hF; intro a hF
        refine L_nil ?_
        refine hK10 _ _ ?_
        refine wp_seq_k fun K11 hK11 => ?_
        refine wp_seq_k fun K12 hK12 => ?_
        refine A_start (fun Wx => Own W noX [.blk b3 (.cells #[.string noKey.space, .string noKey.name] 23 (0, 0)), .blk b2 (.cells #[.string noKey.space, .string noKey.name] 23 (0, 0)), .blk b1 (.cells #[.string k.space, .string k.name] 23 (0, 0))] Wx) (by kernel_rfl) ?_
        replace hO := hO.drewN 1
        generalize hWd : ({ W8 with drawn := W8.drawn + 1 } : World) = W8_d at hO ⊢; clear hWd
        refine A_take (i := 0) (listed' := #[true, false, false, false, false, false, false, false, false, false, false, false, false, false, false, false, false, false, false, false, false, false, false, false, false, false, false, false, false, false, false, false]) rfl (by kernel_rfl) (by kernel_rfl) (by kernel_rfl) (by kernel_rfl) hF (by kernel_rfl) (by kernel_rfl) (v := .string s) (fun Wx _ => by kernel_rfl) (by kernel_rfl) (hO.sub (.cons_cons _ (.cons_cons _ (.cons_cons _ (List.nil_sublist _))))) ?_
        clear hF; intro a hF
        refine A_take (i := 2) (listed' := #[true, false, true, false, false, false, false, false, false, false, false, false, false, false, false, false, false, false, false, false, false, false, false, false, false, false, false, false, false, false, false, false]) rfl (by kernel_rfl) (by kernel_rfl) (by kernel_rfl) (by kernel_rfl) hF (by kernel_rfl) (by kernel_rfl) (v := .string s) (fun Wx _ => by kernel_rfl) (by kernel_rfl) (hO.sub (.cons_cons _ (.cons_cons _ (.cons_cons _ (List.nil_sublist _))))) ?_
        clear hF; intro a hF
        refine A_one (i := 1) (listed' := #[true, true, true, false, false, false, false, false, false, false, false, false, false, false, false, false, false, false, false, false, false, false, false, false, false, false, false, false, false, false, false, false]) (by kernel_rfl) rfl (by kernel_rfl) ?_
        refine OpK.call hF (by kernel_rfl) (by kernel_rfl) (by kernel_rfl) (by kernel_rfl) (names_Label s W8_d (by omega)) ?_
        clear hF; rintro _ W9 a ⟨rfl, hk⟩ hF
        replace hO := hO.call0 hk; clear hk
        refine ⟨hO.sub (.cons_cons _ (.cons_cons _ (.cons_cons _ (List.nil_sublist _)))), ?_⟩
        refine A_one (i := 3) (listed' := #[true, true, true, true, false, false, false, false, false, false, false, false, false, false, false, false, false, false, false, false, false, false, false, false, false, false, false, false, false, false, false, false]) (by kernel_rfl) rfl (by kernel_rfl) ?_
        refine OpK.call hF (by kernel_rfl) (by kernel_rfl) (by kernel_rfl) (by kernel_rfl) (ref05_Label s W9 (by omega)) ?_
        clear hF; rintro _ W10 a ⟨rfl, hk⟩ hF
        replace hO := hO.call0 hk; clear hk
        refine ⟨hO.sub (.cons_cons _ (.cons_cons _ (.cons_cons _ (List.nil_sublist _)))), ?_⟩
        refine A_take (i := 4) (listed' := #[true, true, true, true, true, false, false, false, false, false, false, false, false, false, false, false, false, false, false, false, false, false, false, false, false, false, false, false, false, false, false, false]) rfl (by kernel_rfl) (by kernel_rfl) (by kernel_rfl) (by kernel_rfl) hF (by kernel_rfl) (by kernel_rfl) (v := .bool false) (fun Wx _ => (x_bool (x := !((labelB s) == (labelB s))) (notF (beq_self_eq_true _)) (by kernel_rfl))) (by kernel_rfl) (hO.sub (.cons_cons _ (.cons_cons _ (.cons_cons _ (List.nil_sublist _))))) ?_
        clear hF; intro a hF
        refine A_take (i := 5) (listed' := #[true, true, true, true, true, true, false, false, false, false, false, false, false, false, false, false, false, false, false, false, false, false, false, false, false, false, false, false, false, false, false, false]) rfl (by kernel_rfl) (by kernel_rfl) (by kernel_rfl) (by kernel_rfl) hF (by kernel_rfl) (by kernel_rfl) (v := .bool false) (fun Wx _ => by kernel_rfl) (by kernel_rfl) (hO.sub (.cons_cons _ (.cons_cons _ (.cons_cons _ (List.nil_sublist _))))) ?_
        clear hF; intro a hF
        refine A_take (i := 6) (listed' := #[true, true, true, true, true, true, true, false, false, false, false, false, false, false, false, false, false, false, false, false, false, false, false, false, false, false, false, false, false, false, false, false]) rfl (by kernel_rfl) (by kernel_rfl) (by kernel_rfl) (by kernel_rfl) hF (by kernel_rfl) (by kernel_rfl) (v := .agg #[.string k.space, .string k.name]) (fun Wx hO => x_load (p := .pointer (some ⟨b1, 0, none⟩)) rfl (by kernel_rfl) (run_loadA (k := 2) (by kernel_rfl) (by kernel_rfl) (hO.blk (List.mem_cons_of_mem _ (List.mem_cons_of_mem _ List.mem_cons_self))) (by kernel_rfl) (by kernel_rfl))) (by kernel_rfl) (hO.sub (.cons_cons _ (.cons_cons _ (.cons_cons _ (List.nil_sublist _))))) ?_
        clear hF; intro a hF
        refine A_take (i := 8) (listed' := #[true, true, true, true, true, true, true, false, true, false, false, false, false, false, false, false, false, false, false, false, false, false, false, false, false, false, false, false, false, false, false, false]) rfl (by kernel_rfl) (by kernel_rfl) (by kernel_rfl) (by kernel_rfl) hF (by kernel_rfl) (by kernel_rfl) (v := .agg #[.string k.space, .string k.name]) (fun Wx hO => x_load (p := .pointer (some ⟨b1, 0, none⟩)) rfl (by kernel_rfl) (run_loadA (k := 2) (by kernel_rfl) (by kernel_rfl) (hO.blk (List.mem_cons_of_mem _ (List.mem_cons_of_mem _ List.mem_cons_self))) (by kernel_rfl) (by kernel_rfl))) (by kernel_rfl) (hO.sub (.cons_cons _ (.cons_cons _ (.cons_cons _ (List.nil_sublist _))))) ?_
        clear hF; intro a hF
        refine A_one (i := 7) (listed' := #[true, true, true, true, true, true, true, true, true, false, false, false, false, false, false, false, false, false, false, false, false, false, false, false, false, false, false, false, false, false, false, false]) (by kernel_rfl) rfl (by kernel_rfl) ?_
        refine OpK.call hF (by kernel_rfl) (by kernel_rfl) (by kernel_rfl) (by kernel_rfl) ((names_Key k W10 (by omega) (by omega)).mono fun v W' h => (⟨by rw [h.1, hk], h.2⟩ : v = .bool true ∧ Own W10 noX [] W')) ?_
        clear hF; rintro _ W11 a ⟨rfl, hk⟩ hF
        replace hO := hO.call0 hk; clear hk
        refine ⟨hO.sub (.cons_cons _ (.cons_cons _ (.cons_cons _ (List.nil_sublist _)))), ?_⟩
        refine A_one (i := 9) (listed' := #[true, true, true, true, true, true, true, true, true, true, false, false, false, false, false, false, false, false, false, false, false, false, false, false, false, false, false, false, false, false, false, false]) (by kernel_rfl) rfl (by kernel_rfl) ?_
        refine OpK.call hF (by kernel_rfl) (by kernel_rfl) (by kernel_rfl) (by kernel_rfl) ((ref05_Key k W11 (by omega) (by omega)).mono fun v W' h => (⟨by rw [h.1, hk], h.2⟩ : v = .bool true ∧ Own W11 noX [] W')) ?_
        clear hF; rintro _ W12 a ⟨rfl, hk⟩ hF
        replace hO := hO.call0 hk; clear hk
        refine ⟨hO.sub (.cons_cons _ (.cons_cons _ (.cons_cons _ (List.nil_sublist _)))), ?_⟩
        refine A_take (i := 10) (listed' := #[true, true, true, true, true, true, true, true, true, true, true, false, false, false, false, false, false, false, false, false, false, false, false, false, false, false, false, false, false, false, false, false]) rfl (by kernel_rfl) (by kernel_rfl) (by kernel_rfl) (by kernel_rfl) hF (by kernel_rfl) (by kernel_rfl) (v := .bool false) (fun Wx _ => by kernel_rfl) (by kernel_rfl) (hO.sub (.cons_cons _ (.cons_cons _ (.cons_cons _ (List.nil_sublist _))))) ?_
        clear hF; intro a hF
        refine A_take (i := 11) (listed' := #[true, true, true, true, true, true, true, true, true, true, true, true, false, false, false, false, false, false, false, false, false, false, false, false, false, false, false, false, false, false, false, false]) rfl (by kernel_rfl) (by kernel_rfl) (by kernel_rfl) (by kernel_rfl) hF (by kernel_rfl) (by kernel_rfl) (v := .bool false) (fun Wx _ => by kernel_rfl) (by kernel_rfl) (hO.sub (.cons_cons _ (.cons_cons _ (.cons_cons _ (List.nil_sublist _))))) ?_
        clear hF; intro a hF
        refine A_take (i := 12) (listed' := #[true, true, true, true, true, true, true, true, true, true, true, true, true, false, false, false, false, false, false, false, false, false, false, false, false, false, false, false, false, false, false, false]) rfl (by kernel_rfl) (by kernel_rfl) (by kernel_rfl) (by kernel_rfl) hF (by kernel_rfl) (by kernel_rfl) (v := .bool false) (fun Wx _ => by kernel_rfl) (by kernel_rfl) (hO.sub (.cons_cons _ (.cons_cons _ (.cons_cons _ (List.nil_sublist _))))) ?_
        clear hF; intro a hF
        refine A_take (i := 13) (listed' := #[true, true, true, true, true, true, true, true, true, true, true, true, true, true, false, false, false, false, false, false, false, false, false, false, false, false, false, false, false, false, false, false]) rfl (by kernel_rfl) (by kernel_rfl) (by kernel_rfl) (by kernel_rfl) hF (by kernel_rfl) (by kernel_rfl) (v := .agg #[.string noKey.space, .string noKey.name]) (fun Wx hO => x_load (p := .pointer (some ⟨b2, 0, none⟩)) rfl (by kernel_rfl) (run_loadA (k := 2) (by kernel_rfl) (by kernel_rfl) (hO.blk (List.mem_cons_of_mem _ List.mem_cons_self)) (by kernel_rfl) (by kernel_rfl))) (by kernel_rfl) (hO.sub (.cons_cons _ (.cons_cons _ (.cons_cons _ (List.nil_sublist _))))) ?_
        clear hF; intro a hF
        refine A_take (i := 14) (listed' := #[true, true, true, true, true, true, true, true, true, true, true, true, true, true, true, false, false, false, false, false, false, false, false, false, false, false, false, false, false, false, false, false]) rfl (by kernel_rfl) (by kernel_rfl) (by kernel_rfl) (by kernel_rfl) hF (by kernel_rfl) (by kernel_rfl) (v := .agg #[.string noKey.space, .string noKey.name]) (fun Wx hO => x_load (p := .pointer (some ⟨b3, 0, none⟩)) rfl (by kernel_rfl) (run_loadA (k := 2) (by kernel_rfl) (by kernel_rfl) (hO.blk List.mem_cons_self) (by kernel_rfl) (by kernel_rfl))) (by kernel_rfl) (hO.sub (.cons_cons _ (.cons_cons _ (.cons_cons _ (List.nil_sublist _))))) ?_
        clear hF; intro a hF
        refine A_take (i := 15) (listed' := #[true, true, true, true, true, true, true, true, true, true, true, true, true, true, true, true, false, false, false, false, false, false, false, false, false, false, false, false, false, false, false, false]) rfl (by kernel_rfl) (by kernel_rfl) (by kernel_rfl) (by kernel_rfl) hF (by kernel_rfl) (by kernel_rfl) (v := .bool false) (fun Wx _ => (x_bool (x := !(decide (noKey = noKey))) (notF (decide_eq_true rfl)) (x_neKey (a := noKey) (b := noKey) rfl (by kernel_rfl) (by kernel_rfl)))) (by kernel_rfl) (hO.sub (.cons_cons _ (.cons_cons _ (.cons_cons _ (List.nil_sublist _))))) ?_
        clear hF; intro a hF
        refine A_take (i := 16) (listed' := #[true, true, true, true, true, true, true, true, true, true, true, true, true, true, true, true, true, false, false, false, false, false, false, false, false, false, false, false, false, false, false, false]) rfl (by kernel_rfl) (by kernel_rfl) (by kernel_rfl) (by kernel_rfl) hF (by kernel_rfl) (by kernel_rfl) (v := .bool false) (fun Wx _ => by kernel_rfl) (by kernel_rfl) (hO.sub (.cons_cons _ (.cons_cons _ (.cons_cons _ (List.nil_sublist _))))) ?_
        clear hF; intro a hF
        refine A_take (i := 17) (listed' := #[true, true, true, true, true, true, true, true, true, true, true, true, true, true, true, true, true, true, false, false, false, false, false, false, false, false, false, false, false, false, false, false]) rfl (by kernel_rfl) (by kernel_rfl) (by kernel_rfl) (by kernel_rfl) hF (by kernel_rfl) (by kernel_rfl) (v := .bool false) (fun Wx _ => by kernel_rfl) (by kernel_rfl) (hO.sub (.cons_cons _ (.cons_cons _ (.cons_cons _ (List.nil_sublist _))))) ?_
        clear hF; intro a hF
        refine A_take (i := 18) (listed' := #[true, true, true, true, true, true, true, true, true, true, true, true, true, true, true, true, true, true, true, false, false, false, false, false, false, false, false, false, false, false, false, false]) rfl (by kernel_rfl) (by kernel_rfl) (by kernel_rfl) (by kernel_rfl) hF (by kernel_rfl) (by kernel_rfl) (v := errV ea 5) (fun Wx _ => by kernel_rfl) (by kernel_rfl) (hO.sub (.cons_cons _ (.cons_cons _ (.cons_cons _ (List.nil_sublist _))))) ?_
        clear hF; intro a hF
        refine A_take (i := 19) (listed' := #[true, true, true, true, true, true, true, true, true, true, true, true, true, true, true, true, true, true, true, true, false, false, false, false, false, false, false, false, false, false, false, false]) rfl (by kernel_rfl) (by kernel_rfl) (by kernel_rfl) (by kernel_rfl) hF (by kernel_rfl) (by kernel_rfl) (v := .bool false) (fun Wx _ => by kernel_rfl) (by kernel_rfl) (hO.sub (.cons_cons _ (.cons_cons _ (.cons_cons _ (List.nil_sublist _))))) ?_
        clear hF; intro a hF
        refine A_take (i := 20) (listed' := #[true, true, true, true, true, true, true, true, true, true, true, true, true, true, true, true, true, true, true, true, true, false, false, false, false, false, false, false, false, false, false, false]) rfl (by kernel_rfl) (by kernel_rfl) (by kernel_rfl) (by kernel_rfl) hF (by kernel_rfl) (by kernel_rfl) (v := .bool false) (fun Wx _ => by kernel_rfl) (by kernel_rfl) (hO.sub (.cons_cons _ (.cons_cons _ (.cons_cons _ (List.nil_sublist _))))) ?_
        clear hF; intro a hF
        refine A_take (i := 21) (listed' := #[true, true, true, true, true, true, true, true, true, true, true, true, true, true, true, true, true, true, true, true, true, true, false, false, false, false, false, false, false, false, false, false]) rfl (by kernel_rfl) (by kernel_rfl) (by kernel_rfl) (by kernel_rfl) hF (by kernel_rfl) (by kernel_rfl) (v := .bool false) (fun Wx _ => by kernel_rfl) (by kernel_rfl) (hO.sub (.cons_cons _ (.cons_cons _ (.cons_cons _ (List.nil_sublist _))))) ?_
        clear hF; intro a hF
        refine A_take (i := 22) (listed' := #[true, true, true, true, true, true, true, true, true, true, true, true, true, true, true, true, true, true, true, true, true, true, true, false, false, false, false, false, false, false, false, false]) rfl (by kernel_rfl) (by kernel_rfl) (by kernel_rfl) (by kernel_rfl) hF (by kernel_rfl) (by kernel_rfl) (v := .bool false) (fun Wx _ => by kernel_rfl) (by kernel_rfl) (hO.sub (.cons_cons _ (.cons_cons _ (.cons_cons _ (List.nil_sublist _))))) ?_
        clear hF; intro a hF
        refine A_take (i := 23) (listed' := #[true, true, true, true, true, true, true, true, true, true, true, true, true, true, true, true, true, true, true, true, true, true, true, true, false, false, false, false, false, false, false, false]) rfl (by kernel_rfl) (by kernel_rfl) (by kernel_rfl) (by kernel_rfl) hF (by kernel_rfl) (by kernel_rfl) (v := .bool false) (fun Wx _ => by kernel_rfl) (by kernel_rfl) (hO.sub (.cons_cons _ (.cons_cons _ (.cons_cons _ (List.nil_sublist _))))) ?_
        clear hF; intro a hF
        refine A_take (i := 24) (listed' := #[true, true, true, true, true, true, true, true, true, true, true, true, true, true, true, true, true, true, true, true, true, true, true, true, true, false, false, false, false, false, false, false]) rfl (by kernel_rfl) (by kernel_rfl) (by kernel_rfl) (by kernel_rfl) hF (by kernel_rfl) (by kernel_rfl) (v := .bool false) (fun Wx _ => by kernel_rfl) (by kernel_rfl) (hO.sub (.cons_cons _ (.cons_cons _ (.cons_cons _ (List.nil_sublist _))))) ?_
        clear hF; intro a hF
        refine A_take (i := 25) (listed' := #[true, true, true, true, true, true, true, true, true, true, true, true, true, true, true, true, true, true, true, true, true, true, true, true, true, true, false, false, false, false, false, false]) rfl (by kernel_rfl) (by kernel_rfl) (by kernel_rfl) (by kernel_rfl) hF (by kernel_rfl) (by kernel_rfl) (v := .bool true) (fun Wx _ => by kernel_rfl) (by kernel_rfl) (hO.sub (.cons_cons _ (.cons_cons _ (.cons_cons _ (List.nil_sublist _))))) ?_
        clear hF; intro a hF
        refine A_take (i := 26) (listed' := #[true, true, true, true, true, true, true, true, true, true, true, true, true, true, true, true, true, true, true, true, true, true, true, true, true, true, true, false, false, false, false, false]) rfl (by kernel_rfl) (by kernel_rfl) (by kernel_rfl) (by kernel_rfl) hF (by kernel_rfl) (by kernel_rfl) (v := .bool true) (fun Wx _ => by kernel_rfl) (by kernel_rfl) (hO.sub (.cons_cons _ (.cons_cons _ (.cons_cons _ (List.nil_sublist _))))) ?_
        clear hF; intro a hF
        refine A_take (i := 27) (listed' := #[true, true, true, true, true, true, true, true, true, true, true, true, true, true, true, true, true, true, true, true, true, true, true, true, true, true, true, true, false, false, false, false]) rfl (by kernel_rfl) (by kernel_rfl) (by kernel_rfl) (by kernel_rfl) hF (by kernel_rfl) (by kernel_rfl) (v := errV ea 5) (fun Wx _ => by kernel_rfl) (by kernel_rfl) (hO.sub (.cons_cons _ (.cons_cons _ (.cons_cons _ (List.nil_sublist _))))) ?_
        clear hF; intro a hF
        refine A_one (i := 28) (listed' := #[true, true, true, true, true, true, true, true, true, true, true, true, true, true, true, true, true, true, true, true, true, true, true, true, true, true, true, true, true, false, false, false]) (by kernel_rfl) rfl (by kernel_rfl) ?_
        refine OpK.call hF (by kernel_rfl) (by kernel_rfl) (by kernel_rfl) (by kernel_rfl) (num_err ea 5 W12 (hI ▸ hE.own hO) (by decide)) ?_
        clear hF; rintro _ W13 a ⟨rfl, hk⟩ hF
        replace hO := hO.call0 hk; clear hk
        refine ⟨hO.sub (.cons_cons _ (.cons_cons _ (.cons_cons _ (List.nil_sublist _)))), ?_⟩
        refine A_take (i := 29) (listed' := #[true, true, true, true, true, true, true, true, true, true, true, true, true, true, true, true, true, true, true, true, true, true, true, true, true, true, true, true, true, true, false, false]) rfl (by kernel_rfl) (by kernel_rfl) (by kernel_rfl) (by kernel_rfl) hF (by kernel_rfl) (by kernel_rfl) (v := .bool false) (fun Wx _ => by kernel_rfl) (by kernel_rfl) (hO.sub (.cons_cons _ (.cons_cons _ (.cons_cons _ (List.nil_sublist _))))) ?_
        clear hF; intro a hF
        refine A_take (i := 30) (listed' := #[true, true, true, true, true, true, true, true, true, true, true, true, true, true, true, true, true, true, true, true, true, true, true, true, true, true, true, true, true, true, true, false]) rfl (by kernel_rfl) (by kernel_rfl) (by kernel_rfl) (by kernel_rfl) hF (by kernel_rfl) (by kernel_rfl) (v := .bool false) (fun Wx _ => by kernel_rfl) (by kernel_rfl) (hO.sub (.cons_cons _ (.cons_cons _ (.cons_cons _ (List.nil_sublist _))))) ?_
        clear hF; intro a hF
        refine A_take (i := 31) (listed' := #[true, true, true, true, true, true, true, true, true, true, true, true, true, true, true, true, true, true, true, true, true, true, true, true, true, true, true, true, true, true, true, true]) rfl (by kernel_rfl) (by kernel_rfl) (by kernel_rfl) (by kernel_rfl) hF (by kernel_rfl) (by kernel_rfl) (v := .bool false) (fun Wx _ => by kernel_rfl) (by kernel_rfl) (hO.sub (.cons_cons _ (.cons_cons _ (.cons_cons _ (List.nil_sublist _))))) ?_
        clear hF; intro a hF
        refine A_done (by kernel_rfl) ?_
        refine hK12 _ _ ?_
        refine cond_f hF (by kernel_rfl) (by kernel_rfl) ?_
        refine wp_skip ?_
        refine hK11 _ _ ?_
        refine wp_seq_k fun K13 hK13 => ?_
        refine wp_seq_k fun K14 hK14 => ?_
        refine wp_region_lit ?_
        refine L_val hF (by kernel_rfl) (by kernel_rfl) (v := .agg #[.string k.space, .string k.name]) (x_load (p := .pointer (some ⟨b1, 0, none⟩)) rfl (by kernel_rfl) (run_loadA (k := 2) (by kernel_rfl) (by kernel_rfl) (hO.blk (List.mem_cons_of_mem _ (List.mem_cons_of_mem _ List.mem_cons_self))) (by kernel_rfl) (by kernel_rfl))) (by kernel_rfl) ?_
        clear hF; intro a hF
        refine L_call hF (by kernel_rfl) (by kernel_rfl) (by kernel_rfl) (by kernel_rfl) ((ref05_Key k W13 (by omega) (by omega)).mono fun v W' h => (⟨by rw [h.1, hk], h.2⟩ : v = .bool true ∧ Own W13 noX [] W')) ?_
        clear hF; rintro _ W14 a ⟨rfl, hk⟩ hF
        replace hO := hO.call0 hk; clear hk
        refine L_val hF (by kernel_rfl) (by kernel_rfl) (v := .bool false) (by kernel_rfl) (by kernel_rfl) ?_
        clear hF; intro a hF
        refine L_nil ?_
        refine hK14 _ _ ?_
        refine cond_f hF (by kernel_rfl) (by kernel_rfl) ?_
        refine wp_skip ?_
        refine hK13 _ _ ?_
        refine wp_seq_k fun K15 hK15 => ?_
        refine wp_region_lit ?_
        refine L_val hF (by kernel_rfl) (by kernel_rfl) (v := .agg #[.string k.space, .string k.name]) (x_load (p := .pointer (some ⟨b1, 0, none⟩)) rfl (by kernel_rfl) (run_loadA (k := 2) (by kernel_rfl) (by kernel_rfl) (hO.blk (List.mem_cons_of_mem _ (List.mem_cons_of_mem _ List.mem_cons_self))) (by kernel_rfl) (by kernel_rfl))) (by kernel_rfl) ?_
        clear hF; intro a hF
        refine L_call hF (by kernel_rfl) (by kernel_rfl) (by kernel_rfl) (by kernel_rfl) ((names_Format k W14 (by omega) (by omega)).mono fun v W' h => (⟨by rw [h.1, fmtKey, if_pos hk], h.2⟩ : v = .string ((k.space ++ (⟨#[47]⟩ : ByteArray)) ++ k.name) ∧ Own W14 noX [] W')) ?_
        clear hF; rintro _ W15 a ⟨rfl, hk⟩ hF
        replace hO := hO.call0 hk; clear hk
        refine L_call hF (by kernel_rfl) (by kernel_rfl) (by kernel_rfl) (by kernel_rfl) (names_Parse_some I ea m ((k.space ++ (⟨#[47]⟩ : ByteArray)) ++ k.name) k W15 (by (first | omega | (simp only [ByteArray.size_append, sz, List.length_cons, List.length_nil]; omega))) (hO.oldCell (lt_of_cell hM) (fun h => h) hM) (hE.own hO) h5 (parse_fmt k hk)) ?_
        clear hF; rintro _ W16 a ⟨rfl, hk⟩ hF
        replace hO := hO.call0 hk; clear hk
        refine L_val hF (by kernel_rfl) (by kernel_rfl) (v := .tuple #[keyV k, .nilIface]) (by kernel_rfl) (by kernel_rfl) ?_
        clear hF; intro a hF
        refine L_val hF (by kernel_rfl) (by kernel_rfl) (v := keyV k) (by kernel_rfl) (by kernel_rfl) ?_
        clear hF; intro a hF
        refine L_val hF (by kernel_rfl) (by kernel_rfl) (v := .nilIface) (by kernel_rfl) (by kernel_rfl) ?_
        clear hF; intro a hF
        refine L_new hF hO (by kernel_rfl) (by kernel_rfl) (vf := fun b => .pointer (some ⟨b, 0, none⟩)) (ob := .cells #[.string (⟨#[]⟩ : ByteArray), .string (⟨#[]⟩ : ByteArray)] 23) (by kernel_rfl) (by kernel_rfl) ?_
        clear hF hO; intro b4 W17 a hO hF
        obtain ⟨W18, hst, hO1⟩ := run_storeAt (P := Tryd.prog) (k := 2) (T := 23) (off := 0) (v := keyV k) (cs := #[.string (⟨#[]⟩ : ByteArray), .string (⟨#[]⟩ : ByteArray)]) (cs' := #[.string k.space, .string k.name]) hO (by kernel_rfl) (by kernel_rfl) (by kernel_rfl) (Nat.le_of_ble_eq_true (by kernel_rfl)) (by kernel_rfl) (.head _)
        refine L_skip hF (by kernel_rfl) (by kernel_rfl) (x_store (p := .pointer (some ⟨b4, 0, none⟩)) (v := keyV k) rfl (by kernel_rfl) (by kernel_rfl) hst) (by kernel_rfl) ?_
        clear hst hF; intro a hF; replace hO := hO1; clear hO1
        refine L_val hF (by kernel_rfl) (by kernel_rfl) (v := .nilIface) (by kernel_rfl) (by kernel_rfl) ?_
        clear hF; intro a hF
        refine L_nil ?_
        refine hK15 _ _ ?_
        refine wp_seq_k fun K16 hK16 => ?_
        refine A_start (fun Wx => Own W noX [.blk b4 (.cells #[.string k.space, .string k.name] 23 (0, 0)), .blk b3 (.cells #[.string noKey.space, .string noKey.name] 23 (0, 0)), .blk b2 (.cells #[.string noKey.space, .string noKey.name] 23 (0, 0)), .blk b1 (.cells #[.string k.space, .string k.name] 23 (0, 0))] Wx) (by kernel_rfl) ?_
        replace hO := hO.drewN 1
        generalize hWd : ({ W18 with drawn := W18.drawn + 1 } : World) = W18_d at hO ⊢; clear hWd
        refine A_take (i := 0) (listed' := #[true, false, false, false, false, false, false, false, false, false, false, false, false, false, false, false, false, false, false]) rfl (by kernel_rfl) (by kernel_rfl) (by kernel_rfl) (by kernel_rfl) hF (by kernel_rfl) (by kernel_rfl) (v := .agg #[.string k.space, .string k.name]) (fun Wx hO => x_load (p := .pointer (some ⟨b1, 0, none⟩)) rfl (by kernel_rfl) (run_loadA (k := 2) (by kernel_rfl) (by kernel_rfl) (hO.blk (List.mem_cons_of_mem _ (List.mem_cons_of_mem _ (List.mem_cons_of_mem _ List.mem_cons_self)))) (by kernel_rfl) (by kernel_rfl))) (by kernel_rfl) (hO.sub (.cons_cons _ (.cons_cons _ (.cons_cons _ (.cons_cons _ (List.nil_sublist _)))))) ?_
        clear hF; intro a hF
        refine A_take (i := 2) (listed' := #[true, false, true, false, false, false, false, false, false, false, false, false, false, false, false, false, false, false, false]) rfl (by kernel_rfl) (by kernel_rfl) (by kernel_rfl) (by kernel_rfl) hF (by kernel_rfl) (by kernel_rfl) (v := .pointer (some ⟨b1, 0, none⟩)) (fun Wx _ => by kernel_rfl) (by kernel_rfl) (hO.sub (.cons_cons _ (.cons_cons _ (.cons_cons _ (.cons_cons _ (List.nil_sublist _)))))) ?_
        clear hF; intro a hF
        refine A_take (i := 3) (listed' := #[true, false, true, true, false, false, false, false, false, false, false, false, false, false, false, false, false, false, false]) rfl (by kernel_rfl) (by kernel_rfl) (by kernel_rfl) (by kernel_rfl) hF (by kernel_rfl) (by kernel_rfl) (v := .string k.space) (fun Wx hO => x_load (p := .pointer (some ⟨b1, 0, none⟩)) rfl (by kernel_rfl) (run_load1 (by kernel_rfl) ((hO.cell (List.mem_cons_of_mem _ (List.mem_cons_of_mem _ (List.mem_cons_of_mem _ List.mem_cons_self)))).trans (by kernel_rfl)))) (by kernel_rfl) (hO.sub (.cons_cons _ (.cons_cons _ (.cons_cons _ (.cons_cons _ (List.nil_sublist _)))))) ?_
        clear hF; intro a hF
        refine A_take (i := 4) (listed' := #[true, false, true, true, true, false, false, false, false, false, false, false, false, false, false, false, false, false, false]) rfl (by kernel_rfl) (by kernel_rfl) (by kernel_rfl) (by kernel_rfl) hF (by kernel_rfl) (by kernel_rfl) (v := .string (k.space ++ (⟨#[47]⟩ : ByteArray))) (fun Wx _ => (x_cat (s := k.space) (t := (⟨#[47]⟩ : ByteArray)) rfl (by kernel_rfl) (by kernel_rfl) (by (first | omega | (simp only [ByteArray.size_append, sz, List.length_cons, List.length_nil]; omega))))) (by kernel_rfl) (hO.sub (.cons_cons _ (.cons_cons _ (.cons_cons _ (.cons_cons _ (List.nil_sublist _)))))) ?_
        clear hF; intro a hF
        refine A_take (i := 5) (listed' := #[true, false, true, true, true, true, false, false, false, false, false, false, false, false, false, false, false, false, false]) rfl (by kernel_rfl) (by kernel_rfl) (by kernel_rfl) (by kernel_rfl) hF (by kernel_rfl) (by kernel_rfl) (v := .pointer (some ⟨b1, 1, none⟩)) (fun Wx _ => by kernel_rfl) (by kernel_rfl) (hO.sub (.cons_cons _ (.cons_cons _ (.cons_cons _ (.cons_cons _ (List.nil_sublist _)))))) ?_
        clear hF; intro a hF
        refine A_take (i := 6) (listed' := #[true, false, true, true, true, true, true, false, false, false, false, false, false, false, false, false, false, false, false]) rfl (by kernel_rfl) (by kernel_rfl) (by kernel_rfl) (by kernel_rfl) hF (by kernel_rfl) (by kernel_rfl) (v := .string k.name) (fun Wx hO => x_load (p := .pointer (some ⟨b1, 1, none⟩)) rfl (by kernel_rfl) (run_load1 (by kernel_rfl) ((hO.cell (List.mem_cons_of_mem _ (List.mem_cons_of_mem _ (List.mem_cons_of_mem _ List.mem_cons_self)))).trans (by kernel_rfl)))) (by kernel_rfl) (hO.sub (.cons_cons _ (.cons_cons _ (.cons_cons _ (.cons_cons _ (List.nil_sublist _)))))) ?_
        clear hF; intro a hF
        refine A_take (i := 7) (listed' := #[true, false, true, true, true, true, true, true, false, false, false, false, false, false, false, false, false, false, false]) rfl (by kernel_rfl) (by kernel_rfl) (by kernel_rfl) (by kernel_rfl) hF (by kernel_rfl) (by kernel_rfl) (v := .string ((k.space ++ (⟨#[47]⟩ : ByteArray)) ++ k.name)) (fun Wx _ => (x_cat (s := k.space ++ (⟨#[47]⟩ : ByteArray)) (t := k.name) rfl (by kernel_rfl) (by kernel_rfl) (by (first | omega | (simp only [ByteArray.size_append, sz, List.length_cons, List.length_nil]; omega))))) (by kernel_rfl) (hO.sub (.cons_cons _ (.cons_cons _ (.cons_cons _ (.cons_cons _ (List.nil_sublist _)))))) ?_
        clear hF; intro a hF
        refine A_one (i := 1) (listed' := #[true, true, true, true, true, true, true, true, false, false, false, false, false, false, false, false, false, false, false]) (by kernel_rfl) rfl (by kernel_rfl) ?_
        refine OpK.call hF (by kernel_rfl) (by kernel_rfl) (by kernel_rfl) (by kernel_rfl) ((names_Format k W18_d (by omega) (by omega)).mono fun v W' h => (⟨by rw [h.1, fmtKey, if_pos hk], h.2⟩ : v = .string ((k.space ++ (⟨#[47]⟩ : ByteArray)) ++ k.name) ∧ Own W18_d noX [] W')) ?_
        clear hF; rintro _ W19 a ⟨rfl, hk⟩ hF
        replace hO := hO.call0 hk; clear hk
        refine ⟨hO.sub (.cons_cons _ (.cons_cons _ (.cons_cons _ (.cons_cons _ (List.nil_sublist _))))), ?_⟩
        refine A_take (i := 8) (listed' := #[true, true, true, true, true, true, true, true, true, false, false, false, false, false, false, false, false, false, false]) rfl (by kernel_rfl) (by kernel_rfl) (by kernel_rfl) (by kernel_rfl) hF (by kernel_rfl) (by kernel_rfl) (v := .bool true) (fun Wx _ => (x_bool (x := strEq ((k.space ++ (⟨#[47]⟩ : ByteArray)) ++ k.name) ((k.space ++ (⟨#[47]⟩ : ByteArray)) ++ k.name)) (strEq_refl _) (by kernel_rfl))) (by kernel_rfl) (hO.sub (.cons_cons _ (.cons_cons _ (.cons_cons _ (.cons_cons _ (List.nil_sublist _)))))) ?_
        clear hF; intro a hF
        refine A_take (i := 9) (listed' := #[true, true, true, true, true, true, true, true, true, true, false, false, false, false, false, false, false, false, false]) rfl (by kernel_rfl) (by kernel_rfl) (by kernel_rfl) (by kernel_rfl) hF (by kernel_rfl) (by kernel_rfl) (v := .bool true) (fun Wx _ => by kernel_rfl) (by kernel_rfl) (hO.sub (.cons_cons _ (.cons_cons _ (.cons_cons _ (.cons_cons _ (List.nil_sublist _)))))) ?_
        clear hF; intro a hF
        refine A_take (i := 10) (listed' := #[true, true, true, true, true, true, true, true, true, true, true, false, false, false, false, false, false, false, false]) rfl (by kernel_rfl) (by kernel_rfl) (by kernel_rfl) (by kernel_rfl) hF (by kernel_rfl) (by kernel_rfl) (v := .nilIface) (fun Wx _ => by kernel_rfl) (by kernel_rfl) (hO.sub (.cons_cons _ (.cons_cons _ (.cons_cons _ (.cons_cons _ (List.nil_sublist _)))))) ?_
        clear hF; intro a hF
        refine A_take (i := 11) (listed' := #[true, true, true, true, true, true, true, true, true, true, true, true, false, false, false, false, false, false, false]) rfl (by kernel_rfl) (by kernel_rfl) (by kernel_rfl) (by kernel_rfl) hF (by kernel_rfl) (by kernel_rfl) (v := .bool true) (fun Wx _ => by kernel_rfl) (by kernel_rfl) (hO.sub (.cons_cons _ (.cons_cons _ (.cons_cons _ (.cons_cons _ (List.nil_sublist _)))))) ?_
        clear hF; intro a hF
        refine A_take (i := 12) (listed' := #[true, true, true, true, true, true, true, true, true, true, true, true, true, false, false, false, false, false, false]) rfl (by kernel_rfl) (by kernel_rfl) (by kernel_rfl) (by kernel_rfl) hF (by kernel_rfl) (by kernel_rfl) (v := .bool true) (fun Wx _ => by kernel_rfl) (by kernel_rfl) (hO.sub (.cons_cons _ (.cons_cons _ (.cons_cons _ (.cons_cons _ (List.nil_sublist _)))))) ?_
        clear hF; intro a hF
        refine A_take (i := 13) (listed' := #[true, true, true, true, true, true, true, true, true, true, true, true, true, true, false, false, false, false, false]) rfl (by kernel_rfl) (by kernel_rfl) (by kernel_rfl) (by kernel_rfl) hF (by kernel_rfl) (by kernel_rfl) (v := .bool true) (fun Wx _ => by kernel_rfl) (by kernel_rfl) (hO.sub (.cons_cons _ (.cons_cons _ (.cons_cons _ (.cons_cons _ (List.nil_sublist _)))))) ?_
        clear hF; intro a hF
        refine A_take (i := 14) (listed' := #[true, true, true, true, true, true, true, true, true, true, true, true, true, true, true, false, false, false, false]) rfl (by kernel_rfl) (by kernel_rfl) (by kernel_rfl) (by kernel_rfl) hF (by kernel_rfl) (by kernel_rfl) (v := .agg #[.string k.space, .string k.name]) (fun Wx hO => x_load (p := .pointer (some ⟨b4, 0, none⟩)) rfl (by kernel_rfl) (run_loadA (k := 2) (by kernel_rfl) (by kernel_rfl) (hO.blk List.mem_cons_self) (by kernel_rfl) (by kernel_rfl))) (by kernel_rfl) (hO.sub (.cons_cons _ (.cons_cons _ (.cons_cons _ (.cons_cons _ (List.nil_sublist _)))))) ?_
        clear hF; intro a hF
        refine A_take (i := 15) (listed' := #[true, true, true, true, true, true, true, true, true, true, true, true, true, true, true, true, false, false, false]) rfl (by kernel_rfl) (by kernel_rfl) (by kernel_rfl) (by kernel_rfl) hF (by kernel_rfl) (by kernel_rfl) (v := .agg #[.string k.space, .string k.name]) (fun Wx hO => x_load (p := .pointer (some ⟨b1, 0, none⟩)) rfl (by kernel_rfl) (run_loadA (k := 2) (by kernel_rfl) (by kernel_rfl) (hO.blk (List.mem_cons_of_mem _ (List.mem_cons_of_mem _ (List.mem_cons_of_mem _ List.mem_cons_self)))) (by kernel_rfl) (by kernel_rfl))) (by kernel_rfl) (hO.sub (.cons_cons _ (.cons_cons _ (.cons_cons _ (.cons_cons _ (List.nil_sublist _)))))) ?_
        clear hF; intro a hF
        refine A_take (i := 16) (listed' := #[true, true, true, true, true, true, true, true, true, true, true, true, true, true, true, true, true, false, false]) rfl (by kernel_rfl) (by kernel_rfl) (by kernel_rfl) (by kernel_rfl) hF (by kernel_rfl) (by kernel_rfl) (v := .bool true) (fun Wx _ => (x_bool (x := decide (k = k)) (decide_eq_true rfl) (x_eqKey (a := k) (b := k) rfl (by kernel_rfl) (by kernel_rfl)))) (by kernel_rfl) (hO.sub (.cons_cons _ (.cons_cons _ (.cons_cons _ (.cons_cons _ (List.nil_sublist _)))))) ?_
        clear hF; intro a hF
        refine A_take (i := 17) (listed' := #[true, true, true, true, true, true, true, true, true, true, true, true, true, true, true, true, true, true, false]) rfl (by kernel_rfl) (by kernel_rfl) (by kernel_rfl) (by kernel_rfl) hF (by kernel_rfl) (by kernel_rfl) (v := .bool true) (fun Wx _ => by kernel_rfl) (by kernel_rfl) (hO.sub (.cons_cons _ (.cons_cons _ (.cons_cons _ (.cons_cons _ (List.nil_sublist _)))))) ?_
        clear hF; intro a hF
        refine A_take (i := 18) (listed' := #[true, true, true, true, true, true, true, true, true, true, true, true, true, true, true, true, true, true, true]) rfl (by kernel_rfl) (by kernel_rfl) (by kernel_rfl) (by kernel_rfl) hF (by kernel_rfl) (by kernel_rfl) (v := .bool true) (fun Wx _ => by kernel_rfl) (by kernel_rfl) (hO.sub (.cons_cons _ (.cons_cons _ (.cons_cons _ (.cons_cons _ (List.nil_sublist _)))))) ?_
        clear hF; intro a hF
        refine A_done (by kernel_rfl) ?_
        refine hK16 _ _ ?_
        refine wp_ret ?_
        -- way 4: ¬ (s.size : Int) > 100; ¬ (k.space.size : Int) > 100; ¬ (k.name.size : Int) > 100
        refine ret1 hF (v := .bool true) rfl (resT (by kernel_rfl)) (by refine ⟨?_, hO.nil⟩; first | rfl | (simp [*]; done)) .ret (.inl rfl)

set_option maxRecDepth 20000 in
theorem law05_NamesKeys_nn (I : List Nat) (ea : Nat → Addr) (m : Int) (s : ByteArray) (k : Key) (W : World) (hM : W.cell? ⟨18, 0, none⟩ = some (.int .i64 m)) (hE : Errs I ea W) (h5 : I.contains 5 = true) (hI : I = errIs) (hp : parseKey s = none) (hk : keyB k = false) : Ret Tryd.prog 3 #[.string s, keyV k] W fun v W' => v = .bool true ∧ Own W noX [] W' := by
  refine enter Tryd.func3 rfl (n := 99) rfl (by kernel_rfl) (E0 := [(1, keyV k), (0, .string s)]) (by kernel_rfl) ?_
  intro a hF; have hO := Own.start W noX
  refine wp_seq_k fun K1 hK1 => ?_
  refine wp_region_lit ?_
  refine L_new hF hO (by kernel_rfl) (by kernel_rfl) (vf := fun b => .pointer (some ⟨b, 0, none⟩)) (ob := .cells #[.string k.space, .string k.name] 23) (by kernel_rfl) (by kernel_rfl) ?_
  clear hF hO; intro b1 W1 a hO hF
  refine L_val hF (by kernel_rfl) (by kernel_rfl) (v := .bool false) (by kernel_rfl) (by kernel_rfl) ?_
  clear hF; intro a hF
  refine L_nil ?_
  refine hK1 _ _ ?_
  refine wp_seq_k fun K2 hK2 => ?_
  refine wp_seq_k fun K3 hK3 => ?_
  refine wp_region_lit ?_
  refine L_call hF (by kernel_rfl) (by kernel_rfl) (by kernel_rfl) (by kernel_rfl) (law05_alive I ea m W1 (hO.oldCell (lt_of_cell hM) (fun h => h) hM) (hE.own hO) h5) ?_
  clear hF; rintro _ W2 a ⟨rfl, hk⟩ hF
  replace hO := hO.call0 hk; clear hk
  refine L_val hF (by kernel_rfl) (by kernel_rfl) (v := .bool false) (by kernel_rfl) (by kernel_rfl) ?_
  clear hF; intro a hF
  refine L_nil ?_
  refine hK3 _ _ ?_
  refine cond_f hF (by kernel_rfl) (by kernel_rfl) ?_
  refine wp_skip ?_
  refine hK2 _ _ ?_
  refine wp_seq_k fun K4 hK4 => ?_
  refine wp_seq_k fun K5 hK5 => ?_
  refine wp_region_lit ?_
  refine L_val hF (by kernel_rfl) (by kernel_rfl) (v := .string s) (by kernel_rfl) (by kernel_rfl) ?_
  clear hF; intro a hF
  refine L_val hF (by kernel_rfl) (by kernel_rfl) (v := .int .i64 ((s.size : Int))) (by kernel_rfl) (by kernel_rfl) ?_
  clear hF; intro a hF
  refine L_val hF (by kernel_rfl) (by kernel_rfl) (v := .bool (decide ((s.size : Int) > 100))) (by kernel_rfl) (by kernel_rfl) ?_
  clear hF; intro a hF
  refine L_val hF (by kernel_rfl) (by kernel_rfl) (v := .bool (decide ((s.size : Int) > 100))) (by kernel_rfl) (by kernel_rfl) ?_
  clear hF; intro a hF
  by_cases q1 : (s.size : Int) > 100
  ·
    replace hF := hF.know (d := 15) (v' := .bool true) (by kernel_rfl) (congrArg Value.bool (decide_eq_true q1))
    refine L_off hF (by kernel_rfl) (by kernel_rfl) ?_
    clear hF; intro a hF
    refine L_off hF (by kernel_rfl) (by kernel_rfl) ?_
    clear hF; intro a hF
    refine L_off hF (by kernel_rfl) (by kernel_rfl) ?_
    clear hF; intro a hF
    refine L_off hF (by kernel_rfl) (by kernel_rfl) ?_
    clear hF; intro a hF
    refine L_val hF (by kernel_rfl) (by kernel_rfl) (v := .bool true) (by kernel_rfl) (by kernel_rfl) ?_
    clear hF; intro a hF
    refine L_val hF (by kernel_rfl) (by kernel_rfl) (v := .bool true) (by kernel_rfl) (by kernel_rfl) ?_
    clear hF; intro a hF
    refine L_off hF (by kernel_rfl) (by kernel_rfl) ?_
    clear hF; intro a hF
    refine L_off hF (by kernel_rfl) (by kernel_rfl) ?_
    clear hF; intro a hF
    refine L_off hF (by kernel_rfl) (by kernel_rfl) ?_
    clear hF; intro a hF
    refine L_off hF (by kernel_rfl) (by kernel_rfl) ?_
    clear hF; intro a hF
    refine L_val hF (by kernel_rfl) (by kernel_rfl) (v := .bool true) (by kernel_rfl) (by kernel_rfl) ?_
    clear hF; intro a hF
    refine L_nil ?_
    refine hK5 _ _ ?_
    refine cond_t hF (by kernel_rfl) (by kernel_rfl) ?_
    refine wp_seq_k fun K6 hK6 => ?_
    refine wp_region_lit ?_
    refine L_val hF (by kernel_rfl) (by kernel_rfl) (v := .bool true) (by kernel_rfl) (by kernel_rfl) ?_
    clear hF; intro a hF
    refine L_nil ?_
    refine hK6 _ _ ?_
    refine wp_ret ?_
    refine then_ret ?_
    -- way 1: (s.size : Int) > 100
    refine ret1 hF (v := .bool true) rfl (resT (by kernel_rfl)) (by refine ⟨?_, hO.nil⟩; first | rfl | (simp [*]; done)) .ret (.inl rfl)
  ·
    replace hF := hF.know (d := 15) (v' := .bool false) (by kernel_rfl) (congrArg Value.bool (decide_eq_false q1))
    refine L_val hF (by kernel_rfl) (by kernel_rfl) (v := .pointer (some ⟨b1, 0, none⟩)) (by kernel_rfl) (by kernel_rfl) ?_
    clear hF; intro a hF
    refine L_val hF (by kernel_rfl) (by kernel_rfl) (v := .string k.space) (x_load (p := .pointer (some ⟨b1, 0, none⟩)) rfl (by kernel_rfl) (run_load1 (by kernel_rfl) ((hO.cell List.mem_cons_self).trans (by kernel_rfl)))) (by kernel_rfl) ?_
    clear hF; intro a hF
    refine L_val hF (by kernel_rfl) (by kernel_rfl) (v := .int .i64 ((k.space.size : Int))) (by kernel_rfl) (by kernel_rfl) ?_
    clear hF; intro a hF
    refine L_val hF (by kernel_rfl) (by kernel_rfl) (v := .bool (decide ((k.space.size : Int) > 100))) (by kernel_rfl) (by kernel_rfl) ?_
    clear hF; intro a hF
    refine L_val hF (by kernel_rfl) (by kernel_rfl) (v := .bool (decide ((k.space.size : Int) > 100))) (by kernel_rfl) (by kernel_rfl) ?_
    clear hF; intro a hF
    refine L_val hF (by kernel_rfl) (by kernel_rfl) (v := .bool (decide ((k.space.size : Int) > 100))) (by kernel_rfl) (by kernel_rfl) ?_
    clear hF; intro a hF
    by_cases q2 : (k.space.size : Int) > 100
    ·
      replace hF := hF.know (d := 21) (v' := .bool true) (by kernel_rfl) (congrArg Value.bool (decide_eq_true q2))
      refine L_off hF (by kernel_rfl) (by kernel_rfl) ?_
      clear hF; intro a hF
      refine L_off hF (by kernel_rfl) (by kernel_rfl) ?_
      clear hF; intro a hF
      refine L_off hF (by kernel_rfl) (by kernel_rfl) ?_
      clear hF; intro a hF
      refine L_off hF (by kernel_rfl) (by kernel_rfl) ?_
      clear hF; intro a hF
      refine L_val hF (by kernel_rfl) (by kernel_rfl) (v := .bool true) (by kernel_rfl) (by kernel_rfl) ?_
      clear hF; intro a hF
      refine L_nil ?_
      refine hK5 _ _ ?_
      refine cond_t hF (by kernel_rfl) (by kernel_rfl) ?_
      refine wp_seq_k fun K7 hK7 => ?_
      refine wp_region_lit ?_
      refine L_val hF (by kernel_rfl) (by kernel_rfl) (v := .bool true) (by kernel_rfl) (by kernel_rfl) ?_
      clear hF; intro a hF
      refine L_nil ?_
      refine hK7 _ _ ?_
      refine wp_ret ?_
      refine then_ret ?_
      -- way 2: ¬ (s.size : Int) > 100; (k.space.size : Int) > 100
      refine ret1 hF (v := .bool true) rfl (resT (by kernel_rfl)) (by refine ⟨?_, hO.nil⟩; first | rfl | (simp [*]; done)) .ret (.inl rfl)
    ·
      replace hF := hF.know (d := 21) (v' := .bool false) (by kernel_rfl) (congrArg Value.bool (decide_eq_false q2))
      refine L_val hF (by kernel_rfl) (by kernel_rfl) (v := .pointer (some ⟨b1, 1, none⟩)) (by kernel_rfl) (by kernel_rfl) ?_
      clear hF; intro a hF
      refine L_val hF (by kernel_rfl) (by kernel_rfl) (v := .string k.name) (x_load (p := .pointer (some ⟨b1, 1, none⟩)) rfl (by kernel_rfl) (run_load1 (by kernel_rfl) ((hO.cell List.mem_cons_self).trans (by kernel_rfl)))) (by kernel_rfl) ?_
      clear hF; intro a hF
      refine L_val hF (by kernel_rfl) (by kernel_rfl) (v := .int .i64 ((k.name.size : Int))) (by kernel_rfl) (by kernel_rfl) ?_
      clear hF; intro a hF
      refine L_val hF (by kernel_rfl) (by kernel_rfl) (v := .bool (decide ((k.name.size : Int) > 100))) (by kernel_rfl) (by kernel_rfl) ?_
      clear hF; intro a hF
      refine L_val hF (by kernel_rfl) (by kernel_rfl) (v := .bool (decide ((k.name.size : Int) > 100))) (by kernel_rfl) (by kernel_rfl) ?_
      clear hF; intro a hF
      refine L_nil ?_
      refine hK5 _ _ ?_
      by_cases q3 : (k.name.size : Int) > 100
      ·
        replace hF := hF.know (d := 26) (v' := .bool true) (by kernel_rfl) (congrArg Value.bool (decide_eq_true q3))
        refine cond_t hF (by kernel_rfl) (by kernel_rfl) ?_
        refine wp_seq_k fun K8 hK8 => ?_
        refine wp_region_lit ?_
        refine L_val hF (by kernel_rfl) (by kernel_rfl) (v := .bool true) (by kernel_rfl) (by kernel_rfl) ?_
        clear hF; intro a hF
        refine L_nil ?_
        refine hK8 _ _ ?_
        refine wp_ret ?_
        refine then_ret ?_
        -- way 3: ¬ (s.size : Int) > 100; ¬ (k.space.size : Int) > 100; (k.name.size : Int) > 100
        refine ret1 hF (v := .bool true) rfl (resT (by kernel_rfl)) (by refine ⟨?_, hO.nil⟩; first | rfl | (simp [*]; done)) .ret (.inl rfl)
      ·
        replace hF := hF.know (d := 26) (v' := .bool false) (by kernel_rfl) (congrArg Value.bool (decide_eq_false q3))
        refine cond_f hF (by kernel_rfl) (by kernel_rfl) ?_
        refine wp_skip ?_
        refine hK4 _ _ ?_
        refine wp_seq_k fun K9 hK9 => ?_
        refine wp_region_lit ?_
        refine L_val hF (by kernel_rfl) (by kernel_rfl) (v := .string s) (by kernel_rfl) (by kernel_rfl) ?_
        clear hF; intro a hF
        refine L_call hF (by kernel_rfl) (by kernel_rfl) (by kernel_rfl) (by kernel_rfl) (names_Parse_none I ea m s W2 (by (first | omega | (simp only [ByteArray.size_append, sz, List.length_cons, List.length_nil]; omega))) (hO.oldCell (lt_of_cell hM) (fun h => h) hM) (hE.own hO) h5 hp) ?_
        clear hF; rintro _ W3 a ⟨rfl, hk⟩ hF
        replace hO := hO.call0 hk; clear hk
        refine L_val hF (by kernel_rfl) (by kernel_rfl) (v := .tuple #[keyV noKey, errV ea 5]) (by kernel_rfl) (by kernel_rfl) ?_
        clear hF; intro a hF
        refine L_val hF (by kernel_rfl) (by kernel_rfl) (v := keyV noKey) (by kernel_rfl) (by kernel_rfl) ?_
        clear hF; intro a hF
        refine L_val hF (by kernel_rfl) (by kernel_rfl) (v := errV ea 5) (by kernel_rfl) (by kernel_rfl) ?_
        clear hF; intro a hF
        refine L_new hF hO (by kernel_rfl) (by kernel_rfl) (vf := fun b => .pointer (some ⟨b, 0, none⟩)) (ob := .cells #[.string (⟨#[]⟩ : ByteArray), .string (⟨#[]⟩ : ByteArray)] 23) (by kernel_rfl) (by kernel_rfl) ?_
        clear hF hO; intro b2 W4 a hO hF
        obtain ⟨W5, hst, hO1⟩ := run_storeAt (P := Tryd.prog) (k := 2) (T := 23) (off := 0) (v := keyV noKey) (cs := #[.string (⟨#[]⟩ : ByteArray), .string (⟨#[]⟩ : ByteArray)]) (cs' := #[.string noKey.space, .string noKey.name]) hO (by kernel_rfl) (by kernel_rfl) (by kernel_rfl) (Nat.le_of_ble_eq_true (by kernel_rfl)) (by kernel_rfl) (.head _)
        refine L_skip hF (by kernel_rfl) (by kernel_rfl) (x_store (p := .pointer (some ⟨b2, 0, none⟩)) (v := keyV noKey) rfl (by kernel_rfl) (by kernel_rfl) hst) (by kernel_rfl) ?_
        clear hst hF; intro a hF; replace hO := hO1; clear hO1
        refine L_val hF (by kernel_rfl) (by kernel_rfl) (v := errV ea 5) (by kernel_rfl) (by kernel_rfl) ?_
        clear hF; intro a hF
        refine L_nil ?_
        refine hK9 _ _ ?_
        refine wp_seq_k fun K10 hK10 => ?_
        refine wp_region_lit ?_
        refine L_val hF (by kernel_rfl) (by kernel_rfl) (v := .string s) (by kernel_rfl) (by kernel_rfl) ?_
        clear hF; intro a hF
        refine L_call hF (by kernel_rfl) (by kernel_rfl) (by kernel_rfl) (by kernel_rfl) ((ref05_Parse s W5 (by omega)).mono fun v W' h => (⟨by rw [h.1, hp]; rfl, h.2⟩ : v = .tuple #[keyV noKey, .bool false] ∧ Own W5 noX [] W')) ?_
        clear hF; rintro _ W6 a ⟨rfl, hk⟩ hF
        replace hO := hO.call0 hk; clear hk
        refine L_val hF (by kernel_rfl) (by kernel_rfl) (v := .tuple #[keyV noKey, .bool false]) (by kernel_rfl) (by kernel_rfl) ?_
        clear hF; intro a hF
        refine L_val hF (by kernel_rfl) (by kernel_rfl) (v := keyV noKey) (by kernel_rfl) (by kernel_rfl) ?_
        clear hF; intro a hF
        refine L_val hF (by kernel_rfl) (by kernel_rfl) (v := .bool false) (by kernel_rfl) (by kernel_rfl) ?_
        clear hF; intro a hF
        refine L_new hF hO (by kernel_rfl) (by kernel_rfl) (vf := fun b => .pointer (some ⟨b, 0, none⟩)) (ob := .cells #[.string (⟨#[]⟩ : ByteArray), .string (⟨#[]⟩ : ByteArray)] 23) (by kernel_rfl) (by kernel_rfl) ?_
        clear hF hO; intro b3 W7 a hO hF
        obtain ⟨W8, hst, hO1⟩ := run_storeAt (P := Tryd.prog) (k := 2) (T := 23) (off := 0) (v := keyV noKey) (cs := #[.string (⟨#[]⟩ : ByteArray), .string (⟨#[]⟩ : ByteArray)]) (cs' := #[.string noKey.space, .string noKey.name]) hO (by kernel_rfl) (by kernel_rfl) (by kernel_rfl) (Nat.le_of_ble_eq_true (by kernel_rfl)) (by kernel_rfl) (.head _)
        refine L_skip hF (by kernel_rfl) (by kernel_rfl) (x_store (p := .pointer (some ⟨b3, 0, none⟩)) (v := keyV noKey) rfl (by kernel_rfl) (by kernel_rfl) hst) (by kernel_rfl) ?_
        clear hst hF; intro a hF; replace hO := hO1; clear hO1
        refine L_val hF (by kernel_rfl) (by kernel_rfl) (v := .bool false) (by kernel_rfl) (by kernel_rfl) ?_
        clear hF; intro a hF
        refine L_nil ?_
        refine hK10 _ _ ?_
        refine wp_seq_k fun K11 hK11 => ?_
        refine wp_seq_k fun K12 hK12 => ?_
        refine A_start (fun Wx => Own W noX [.blk b3 (.cells #[.string noKey.space, .string noKey.name] 23 (0, 0)), .blk b2 (.cells #[.string noKey.space, .string noKey.name] 23 (0, 0)), .blk b1 (.cells #[.string k.space, .string k.name] 23 (0, 0))] Wx) (by kernel_rfl) ?_
        replace hO := hO.drewN 1
        generalize hWd : ({ W8 with drawn := W8.drawn + 1 } : World) = W8_d at hO ⊢; clear hWd
        refine A_take (i := 0) (listed' := #[true, false, false, false, false, false, false, false, false, false, false, false, false, false, false, false, false, false, false, false, false, false, false, false, false, false, false, false, false, false, false, false]) rfl (by kernel_rfl) (by kernel_rfl) (by kernel_rfl) (by kernel_rfl) hF (by kernel_rfl) (by kernel_rfl) (v := .string s) (fun Wx _ => by kernel_rfl) (by kernel_rfl) (hO.sub (.cons_cons _ (.cons_cons _ (.cons_cons _ (List.nil_sublist _))))) ?_
        clear hF; intro a hF
        refine A_take (i := 2) (listed' := #[true, false, true, false, false, false, false, false, false, false, false, false, false, false, false, false, false, false, false, false, false, false, false, false, false, false, false, false, false, false, false, false]) rfl (by kernel_rfl) (by kernel_rfl) (by kernel_rfl) (by kernel_rfl) hF (by kernel_rfl) (by kernel_rfl) (v := .string s) (fun Wx _ => by kernel_rfl) (by kernel_rfl) (hO.sub (.cons_cons _ (.cons_cons _ (.cons_cons _ (List.nil_sublist _))))) ?_
        clear hF; intro a hF
        refine A_one (i := 1) (listed' := #[true, true, true, false, false, false, false, false, false, false, false, false, false, false, false, false, false, false, false, false, false, false, false, false, false, false, false, false, false, false, false, false]) (by kernel_rfl) rfl (by kernel_rfl) ?_
        refine OpK.call hF (by kernel_rfl) (by kernel_rfl) (by kernel_rfl) (by kernel_rfl) (names_Label s W8_d (by omega)) ?_
        clear hF; rintro _ W9 a ⟨rfl, hk⟩ hF
        replace hO := hO.call0 hk; clear hk
        refine ⟨hO.sub (.cons_cons _ (.cons_cons _ (.cons_cons _ (List.nil_sublist _)))), ?_⟩
        refine A_one (i := 3) (listed' := #[true, true, true, true, false, false, false, false, false, false, false, false, false, false, false, false, false, false, false, false, false, false, false, false, false, false, false, false, false, false, false, false]) (by kernel_rfl) rfl (by kernel_rfl) ?_
        refine OpK.call hF (by kernel_rfl) (by kernel_rfl) (by kernel_rfl) (by kernel_rfl) (ref05_Label s W9 (by omega)) ?_
        clear hF; rintro _ W10 a ⟨rfl, hk⟩ hF
        replace hO := hO.call0 hk; clear hk
        refine ⟨hO.sub (.cons_cons _ (.cons_cons _ (.cons_cons _ (List.nil_sublist _)))), ?_⟩
        refine A_take (i := 4) (listed' := #[true, true, true, true, true, false, false, false, false, false, false, false, false, false, false, false, false, false, false, false, false, false, false, false, false, false, false, false, false, false, false, false]) rfl (by kernel_rfl) (by kernel_rfl) (by kernel_rfl) (by kernel_rfl) hF (by kernel_rfl) (by kernel_rfl) (v := .bool false) (fun Wx _ => (x_bool (x := !((labelB s) == (labelB s))) (notF (beq_self_eq_true _)) (by kernel_rfl))) (by kernel_rfl) (hO.sub (.cons_cons _ (.cons_cons _ (.cons_cons _ (List.nil_sublist _))))) ?_
        clear hF; intro a hF
        refine A_take (i := 5) (listed' := #[true, true, true, true, true, true, false, false, false, false, false, false, false, false, false, false, false, false, false, false, false, false, false, false, false, false, false, false, false, false, false, false]) rfl (by kernel_rfl) (by kernel_rfl) (by kernel_rfl) (by kernel_rfl) hF (by kernel_rfl) (by kernel_rfl) (v := .bool false) (fun Wx _ => by kernel_rfl) (by kernel_rfl) (hO.sub (.cons_cons _ (.cons_cons _ (.cons_cons _ (List.nil_sublist _))))) ?_
        clear hF; intro a hF
        refine A_take (i := 6) (listed' := #[true, true, true, true, true, true, true, false, false, false, false, false, false, false, false, false, false, false, false, false, false, false, false, false, false, false, false, false, false, false, false, false]) rfl (by kernel_rfl) (by kernel_rfl) (by kernel_rfl) (by kernel_rfl) hF (by kernel_rfl) (by kernel_rfl) (v := .agg #[.string k.space, .string k.name]) (fun Wx hO => x_load (p := .pointer (some ⟨b1, 0, none⟩)) rfl (by kernel_rfl) (run_loadA (k := 2) (by kernel_rfl) (by kernel_rfl) (hO.blk (List.mem_cons_of_mem _ (List.mem_cons_of_mem _ List.mem_cons_self))) (by kernel_rfl) (by kernel_rfl))) (by kernel_rfl) (hO.sub (.cons_cons _ (.cons_cons _ (.cons_cons _ (List.nil_sublist _))))) ?_
        clear hF; intro a hF
        refine A_take (i := 8) (listed' := #[true, true, true, true, true, true, true, false, true, false, false, false, false, false, false, false, false, false, false, false, false, false, false, false, false, false, false, false, false, false, false, false]) rfl (by kernel_rfl) (by kernel_rfl) (by kernel_rfl) (by kernel_rfl) hF (by kernel_rfl) (by kernel_rfl) (v := .agg #[.string k.space, .string k.name]) (fun Wx hO => x_load (p := .pointer (some ⟨b1, 0, none⟩)) rfl (by kernel_rfl) (run_loadA (k := 2) (by kernel_rfl) (by kernel_rfl) (hO.blk (List.mem_cons_of_mem _ (List.mem_cons_of_mem _ List.mem_cons_self))) (by kernel_rfl) (by kernel_rfl))) (by kernel_rfl) (hO.sub (.cons_cons _ (.cons_cons _ (.cons_cons _ (List.nil_sublist _))))) ?_
        clear hF; intro a hF
        refine A_one (i := 7) (listed' := #[true, true, true, true, true, true, true, true, true, false, false, false, false, false, false, false, false, false, false, false, false, false, false, false, false, false, false, false, false, false, false, false]) (by kernel_rfl) rfl (by kernel_rfl) ?_
        refine OpK.call hF (by kernel_rfl) (by kernel_rfl) (by kernel_rfl) (by kernel_rfl) ((names_Key k W10 (by omega) (by omega)).mono fun v W' h => (⟨by rw [h.1, hk], h.2⟩ : v = .bool false ∧ Own W10 noX [] W')) ?_
        clear hF; rintro _ W11 a ⟨rfl, hk⟩ hF
        replace hO := hO.call0 hk; clear hk
        refine ⟨hO.sub (.cons_cons _ (.cons_cons _ (.cons_cons _ (List.nil_sublist _)))), ?_⟩
        refine A_one (i := 9) (listed' := #[true, true, true, true, true, true, true, true, true, true, false, false, false, false, false, false, false, false, false, false, false, false, false, false, false, false, false, false, false, false, false, false]) (by kernel_rfl) rfl (by kernel_rfl) ?_
        refine OpK.call hF (by kernel_rfl) (by kernel_rfl) (by kernel_rfl) (by kernel_rfl) ((ref05_Key k W11 (by omega) (by omega)).mono fun v W' h => (⟨by rw [h.1, hk], h.2⟩ : v = .bool false ∧ Own W11 noX [] W')) ?_
        clear hF; rintro _ W12 a ⟨rfl, hk⟩ hF
        replace hO := hO.call0 hk; clear hk
        refine ⟨hO.sub (.cons_cons _ (.cons_cons _ (.cons_cons _ (List.nil_sublist _)))), ?_⟩
        refine A_take (i := 10) (listed' := #[true, true, true, true, true, true, true, true, true, true, true, false, false, false, false, false, false, false, false, false, false, false, false, false, false, false, false, false, false, false, false, false]) rfl (by kernel_rfl) (by kernel_rfl) (by kernel_rfl) (by kernel_rfl) hF (by kernel_rfl) (by kernel_rfl) (v := .bool false) (fun Wx _ => by kernel_rfl) (by kernel_rfl) (hO.sub (.cons_cons _ (.cons_cons _ (.cons_cons _ (List.nil_sublist _))))) ?_
        clear hF; intro a hF
        refine A_take (i := 11) (listed' := #[true, true, true, true, true, true, true, true, true, true, true, true, false, false, false, false, false, false, false, false, false, false, false, false, false, false, false, false, false, false, false, false]) rfl (by kernel_rfl) (by kernel_rfl) (by kernel_rfl) (by kernel_rfl) hF (by kernel_rfl) (by kernel_rfl) (v := .bool false) (fun Wx _ => by kernel_rfl) (by kernel_rfl) (hO.sub (.cons_cons _ (.cons_cons _ (.cons_cons _ (List.nil_sublist _))))) ?_
        clear hF; intro a hF
        refine A_take (i := 12) (listed' := #[true, true, true, true, true, true, true, true, true, true, true, true, true, false, false, false, false, false, false, false, false, false, false, false, false, false, false, false, false, false, false, false]) rfl (by kernel_rfl) (by kernel_rfl) (by kernel_rfl) (by kernel_rfl) hF (by kernel_rfl) (by kernel_rfl) (v := .bool false) (fun Wx _ => by kernel_rfl) (by kernel_rfl) (hO.sub (.cons_cons _ (.cons_cons _ (.cons_cons _ (List.nil_sublist _))))) ?_
        clear hF; intro a hF
        refine A_take (i := 13) (listed' := #[true, true, true, true, true, true, true, true, true, true, true, true, true, true, false, false, false, false, false, false, false, false, false, false, false, false, false, false, false, false, false, false]) rfl (by kernel_rfl) (by kernel_rfl) (by kernel_rfl) (by kernel_rfl) hF (by kernel_rfl) (by kernel_rfl) (v := .agg #[.string noKey.space, .string noKey.name]) (fun Wx hO => x_load (p := .pointer (some ⟨b2, 0, none⟩)) rfl (by kernel_rfl) (run_loadA (k := 2) (by kernel_rfl) (by kernel_rfl) (hO.blk (List.mem_cons_of_mem _ List.mem_cons_self)) (by kernel_rfl) (by kernel_rfl))) (by kernel_rfl) (hO.sub (.cons_cons _ (.cons_cons _ (.cons_cons _ (List.nil_sublist _))))) ?_
        clear hF; intro a hF
        refine A_take (i := 14) (listed' := #[true, true, true, true, true, true, true, true, true, true, true, true, true, true, true, false, false, false, false, false, false, false, false, false, false, false, false, false, false, false, false, false]) rfl (by kernel_rfl) (by kernel_rfl) (by kernel_rfl) (by kernel_rfl) hF (by kernel_rfl) (by kernel_rfl) (v := .agg #[.string noKey.space, .string noKey.name]) (fun Wx hO => x_load (p := .pointer (some ⟨b3, 0, none⟩)) rfl (by kernel_rfl) (run_loadA (k := 2) (by kernel_rfl) (by kernel_rfl) (hO.blk List.mem_cons_self) (by kernel_rfl) (by kernel_rfl))) (by kernel_rfl) (hO.sub (.cons_cons _ (.cons_cons _ (.cons_cons _ (List.nil_sublist _))))) ?_
        clear hF; intro a hF
        refine A_take (i := 15) (listed' := #[true, true, true, true, true, true, true, true, true, true, true, true, true, true, true, true, false, false, false, false, false, false, false, false, false, false, false, false, false, false, false, false]) rfl (by kernel_rfl) (by kernel_rfl) (by kernel_rfl) (by kernel_rfl) hF (by kernel_rfl) (by kernel_rfl) (v := .bool false) (fun Wx _ => (x_bool (x := !(decide (noKey = noKey))) (notF (decide_eq_true rfl)) (x_neKey (a := noKey) (b := noKey) rfl (by kernel_rfl) (by kernel_rfl)))) (by kernel_rfl) (hO.sub (.cons_cons _ (.cons_cons _ (.cons_cons _ (List.nil_sublist _))))) ?_
        clear hF; intro a hF
        refine A_take (i := 16) (listed' := #[true, true, true, true, true, true, true, true, true, true, true, true, true, true, true, true, true, false, false, false, false, false, false, false, false, false, false, false, false, false, false, false]) rfl (by kernel_rfl) (by kernel_rfl) (by kernel_rfl) (by kernel_rfl) hF (by kernel_rfl) (by kernel_rfl) (v := .bool false) (fun Wx _ => by kernel_rfl) (by kernel_rfl) (hO.sub (.cons_cons _ (.cons_cons _ (.cons_cons _ (List.nil_sublist _))))) ?_
        clear hF; intro a hF
        refine A_take (i := 17) (listed' := #[true, true, true, true, true, true, true, true, true, true, true, true, true, true, true, true, true, true, false, false, false, false, false, false, false, false, false, false, false, false, false, false]) rfl (by kernel_rfl) (by kernel_rfl) (by kernel_rfl) (by kernel_rfl) hF (by kernel_rfl) (by kernel_rfl) (v := .bool false) (fun Wx _ => by kernel_rfl) (by kernel_rfl) (hO.sub (.cons_cons _ (.cons_cons _ (.cons_cons _ (List.nil_sublist _))))) ?_
        clear hF; intro a hF
        refine A_take (i := 18) (listed' := #[true, true, true, true, true, true, true, true, true, true, true, true, true, true, true, true, true, true, true, false, false, false, false, false, false, false, false, false, false, false, false, false]) rfl (by kernel_rfl) (by kernel_rfl) (by kernel_rfl) (by kernel_rfl) hF (by kernel_rfl) (by kernel_rfl) (v := errV ea 5) (fun Wx _ => by kernel_rfl) (by kernel_rfl) (hO.sub (.cons_cons _ (.cons_cons _ (.cons_cons _ (List.nil_sublist _))))) ?_
        clear hF; intro a hF
        refine A_take (i := 19) (listed' := #[true, true, true, true, true, true, true, true, true, true, true, true, true, true, true, true, true, true, true, true, false, false, false, false, false, false, false, false, false, false, false, false]) rfl (by kernel_rfl) (by kernel_rfl) (by kernel_rfl) (by kernel_rfl) hF (by kernel_rfl) (by kernel_rfl) (v := .bool false) (fun Wx _ => by kernel_rfl) (by kernel_rfl) (hO.sub (.cons_cons _ (.cons_cons _ (.cons_cons _ (List.nil_sublist _))))) ?_
        clear hF; intro a hF
        refine A_take (i := 20) (listed' := #[true, true, true, true, true, true, true, true, true, true, true, true, true, true, true, true, true, true, true, true, true, false, false, false, false, false, false, false, false, false, false, false]) rfl (by kernel_rfl) (by kernel_rfl) (by kernel_rfl) (by kernel_rfl) hF (by kernel_rfl) (by kernel_rfl) (v := .bool false) (fun Wx _ => by kernel_rfl) (by kernel_rfl) (hO.sub (.cons_cons _ (.cons_cons _ (.cons_cons _ (List.nil_sublist _))))) ?_
        clear hF; intro a hF
        refine A_take (i := 21) (listed' := #[true, true, true, true, true, true, true, true, true, true, true, true, true, true, true, true, true, true, true, true, true, true, false, false, false, false, false, false, false, false, false, false]) rfl (by kernel_rfl) (by kernel_rfl) (by kernel_rfl) (by kernel_rfl) hF (by kernel_rfl) (by kernel_rfl) (v := .bool false) (fun Wx _ => by kernel_rfl) (by kernel_rfl) (hO.sub (.cons_cons _ (.cons_cons _ (.cons_cons _ (List.nil_sublist _))))) ?_
        clear hF; intro a hF
        refine A_take (i := 22) (listed' := #[true, true, true, true, true, true, true, true, true, true, true, true, true, true, true, true, true, true, true, true, true, true, true, false, false, false, false, false, false, false, false, false]) rfl (by kernel_rfl) (by kernel_rfl) (by kernel_rfl) (by kernel_rfl) hF (by kernel_rfl) (by kernel_rfl) (v := .bool false) (fun Wx _ => by kernel_rfl) (by kernel_rfl) (hO.sub (.cons_cons _ (.cons_cons _ (.cons_cons _ (List.nil_sublist _))))) ?_
        clear hF; intro a hF
        refine A_take (i := 23) (listed' := #[true, true, true, true, true, true, true, true, true, true, true, true, true, true, true, true, true, true, true, true, true, true, true, true, false, false, false, false, false, false, false, false]) rfl (by kernel_rfl) (by kernel_rfl) (by kernel_rfl) (by kernel_rfl) hF (by kernel_rfl) (by kernel_rfl) (v := .bool false) (fun Wx _ => by kernel_rfl) (by kernel_rfl) (hO.sub (.cons_cons _ (.cons_cons _ (.cons_cons _ (List.nil_sublist _))))) ?_
        clear hF; intro a hF
        refine A_take (i := 24) (listed' := #[true, true, true, true, true, true, true, true, true, true, true, true, true, true, true, true, true, true, true, true, true, true, true, true, true, false, false, false, false, false, false, false]) rfl (by kernel_rfl) (by kernel_rfl) (by kernel_rfl) (by kernel_rfl) hF (by kernel_rfl) (by kernel_rfl) (v := .bool false) (fun Wx _ => by kernel_rfl) (by kernel_rfl) (hO.sub (.cons_cons _ (.cons_cons _ (.cons_cons _ (List.nil_sublist _))))) ?_
        clear hF; intro a hF
        refine A_take (i := 25) (listed' := #[true, true, true, true, true, true, true, true, true, true, true, true, true, true, true, true, true, true, true, true, true, true, true, true, true, true, false, false, false, false, false, false]) rfl (by kernel_rfl) (by kernel_rfl) (by kernel_rfl) (by kernel_rfl) hF (by kernel_rfl) (by kernel_rfl) (v := .bool true) (fun Wx _ => by kernel_rfl) (by kernel_rfl) (hO.sub (.cons_cons _ (.cons_cons _ (.cons_cons _ (List.nil_sublist _))))) ?_
        clear hF; intro a hF
        refine A_take (i := 26) (listed' := #[true, true, true, true, true, true, true, true, true, true, true, true, true, true, true, true, true, true, true, true, true, true, true, true, true, true, true, false, false, false, false, false]) rfl (by kernel_rfl) (by kernel_rfl) (by kernel_rfl) (by kernel_rfl) hF (by kernel_rfl) (by kernel_rfl) (v := .bool true) (fun Wx _ => by kernel_rfl) (by kernel_rfl) (hO.sub (.cons_cons _ (.cons_cons _ (.cons_cons _ (List.nil_sublist _))))) ?_
        clear hF; intro a hF
        refine A_take (i := 27) (listed' := #[true, true, true, true, true, true, true, true, true, true, true, true, true, true, true, true, true, true, true, true, true, true, true, true, true, true, true, true, false, false, false, false]) rfl (by kernel_rfl) (by kernel_rfl) (by kernel_rfl) (by kernel_rfl) hF (by kernel_rfl) (by kernel_rfl) (v := errV ea 5) (fun Wx _ => by kernel_rfl) (by kernel_rfl) (hO.sub (.cons_cons _ (.cons_cons _ (.cons_cons _ (List.nil_sublist _))))) ?_
        clear hF; intro a hF
        refine A_one (i := 28) (listed' := #[true, true, true, true, true, true, true, true, true, true, true, true, true, true, true, true, true, true, true, true, true, true, true, true, true, true, true, true, true, false, false, false]) (by kernel_rfl) rfl (by kernel_rfl) ?_
        refine OpK.call hF (by kernel_rfl) (by kernel_rfl) (by kernel_rfl) (by kernel_rfl) (num_err ea 5 W12 (hI ▸ hE.own hO) (by decide)) ?_
        clear hF; rintro _ W13 a ⟨rfl, hk⟩ hF
        replace hO := hO.call0 hk; clear hk
        refine ⟨hO.sub (.cons_cons _ (.cons_cons _ (.cons_cons _ (List.nil_sublist _)))), ?_⟩
        refine A_take (i := 29) (listed' := #[true, true, true, true, true, true, true, true, true, true, true, true, true, true, true, true, true, true, true, true, true, true, true, true, true, true, true, true, true, true, false, false]) rfl (by kernel_rfl) (by kernel_rfl) (by kernel_rfl) (by kernel_rfl) hF (by kernel_rfl) (by kernel_rfl) (v := .bool false) (fun Wx _ => by kernel_rfl) (by kernel_rfl) (hO.sub (.cons_cons _ (.cons_cons _ (.cons_cons _ (List.nil_sublist _))))) ?_
        clear hF; intro a hF
        refine A_take (i := 30) (listed' := #[true, true, true, true, true, true, true, true, true, true, true, true, true, true, true, true, true, true, true, true, true, true, true, true, true, true, true, true, true, true, true, false]) rfl (by kernel_rfl) (by kernel_rfl) (by kernel_rfl) (by kernel_rfl) hF (by kernel_rfl) (by kernel_rfl) (v := .bool false) (fun Wx _ => by kernel_rfl) (by kernel_rfl) (hO.sub (.cons_cons _ (.cons_cons _ (.cons_cons _ (List.nil_sublist _))))) ?_
        clear hF; intro a hF
        refine A_take (i := 31) (listed' := #[true, true, true, true, true, true, true, true, true, true, true, true, true, true, true, true, true, true, true, true, true, true, true, true, true, true, true, true, true, true, true, true]) rfl (by kernel_rfl) (by kernel_rfl) (by kernel_rfl) (by kernel_rfl) hF (by kernel_rfl) (by kernel_rfl) (v := .bool false) (fun Wx _ => by kernel_rfl) (by kernel_rfl) (hO.sub (.cons_cons _ (.cons_cons _ (.cons_cons _ (List.nil_sublist _))))) ?_
        clear hF; intro a hF
        refine A_done (by kernel_rfl) ?_
        refine hK12 _ _ ?_
        refine cond_f hF (by kernel_rfl) (by kernel_rfl) ?_
        refine wp_skip ?_
        refine hK11 _ _ ?_
        refine wp_seq_k fun K13 hK13 => ?_
        refine wp_seq_k fun K14 hK14 => ?_
        refine wp_region_lit ?_
        refine L_val hF (by kernel_rfl) (by kernel_rfl) (v := .agg #[.string k.space, .string k.name]) (x_load (p := .pointer (some ⟨b1, 0, none⟩)) rfl (by kernel_rfl) (run_loadA (k := 2) (by kernel_rfl) (by kernel_rfl) (hO.blk (List.mem_cons_of_mem _ (List.mem_cons_of_mem _ List.mem_cons_self))) (by kernel_rfl) (by kernel_rfl))) (by kernel_rfl) ?_
        clear hF; intro a hF
        refine L_call hF (by kernel_rfl) (by kernel_rfl) (by kernel_rfl) (by kernel_rfl) ((ref05_Key k W13 (by omega) (by omega)).mono fun v W' h => (⟨by rw [h.1, hk], h.2⟩ : v = .bool false ∧ Own W13 noX [] W')) ?_
        clear hF; rintro _ W14 a ⟨rfl, hk⟩ hF
        replace hO := hO.call0 hk; clear hk
        refine L_val hF (by kernel_rfl) (by kernel_rfl) (v := .bool true) (by kernel_rfl) (by kernel_rfl) ?_
        clear hF; intro a hF
        refine L_nil ?_
        refine hK14 _ _ ?_
        refine cond_t hF (by kernel_rfl) (by kernel_rfl) ?_
        refine wp_seq_k fun K15 hK15 => ?_
        refine wp_region_lit ?_
        refine L_val hF (by kernel_rfl) (by kernel_rfl) (v := .agg #[.string k.space, .string k.name]) (x_load (p := .pointer (some ⟨b1, 0, none⟩)) rfl (by kernel_rfl) (run_loadA (k := 2) (by kernel_rfl) (by kernel_rfl) (hO.blk (List.mem_cons_of_mem _ (List.mem_cons_of_mem _ List.mem_cons_self))) (by kernel_rfl) (by kernel_rfl))) (by kernel_rfl) ?_
        clear hF; intro a hF
        refine L_call hF (by kernel_rfl) (by kernel_rfl) (by kernel_rfl) (by kernel_rfl) ((names_Format k W14 (by omega) (by omega)).mono fun v W' h => (⟨by rw [h.1, fmtKey, if_neg (ne_true_of_eq_false hk)], h.2⟩ : v = .string (⟨#[]⟩ : ByteArray) ∧ Own W14 noX [] W')) ?_
        clear hF; rintro _ W15 a ⟨rfl, hk⟩ hF
        replace hO := hO.call0 hk; clear hk
        refine L_val hF (by kernel_rfl) (by kernel_rfl) (v := .bool true) (x_bool (x := strEq (⟨#[]⟩ : ByteArray) (⟨#[]⟩ : ByteArray)) (strEq_refl _) (by kernel_rfl)) (by kernel_rfl) ?_
        clear hF; intro a hF
        refine L_val hF (by kernel_rfl) (by kernel_rfl) (v := .bool true) (by kernel_rfl) (by kernel_rfl) ?_
        clear hF; intro a hF
        refine L_nil ?_
        refine hK15 _ _ ?_
        refine wp_ret ?_
        refine then_ret ?_
        -- way 4: ¬ (s.size : Int) > 100; ¬ (k.space.size : Int) > 100; ¬ (k.name.size : Int) > 100
        refine ret1 hF (v := .bool true) rfl (resT (by kernel_rfl)) (by refine ⟨?_, hO.nil⟩; first | rfl | (simp [*]; done)) .ret (.inl rfl)

end Go.Proofs.YtkeialdhogfdjaaDoor
