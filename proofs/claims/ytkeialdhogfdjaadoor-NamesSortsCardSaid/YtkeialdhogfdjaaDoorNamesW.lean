import Derived.Test.YtkeialdhogfdjaaDoorNames
import Derived.Test.YtkeialdhogfdjaaDoorErrs
import Derived.Test.YtkeialdhogfdjaaDoorShelf
import Derived.Shelf.Strings.SlTrimAscii
import Derived.Shelf.Strings.Cut
import Derived.Shelf.Strings.Prefix
namespace Go.Proofs.YtkeialdhogfdjaaDoor
open Go Go.RowKit
set_option linter.unusedSimpArgs false
set_option linter.unusedVariables false


theorem trim_ret (s : ByteArray) (W : World) (hs : s.size ≤ 9223372036854775807) : Ret Tryd.prog 19 #[.string s, .string ⟨#[97, 98, 99, 100, 101, 102, 103, 104, 105, 106, 107, 108, 109, 110, 111, 112, 113, 114, 115, 116, 117, 118, 119, 120, 121, 122, 48, 49, 50, 51, 52, 53, 54, 55, 56, 57, 45]⟩] W fun v W' => v = .string ⟨(Lib.trimS s.data.toList labSet).toArray⟩ ∧ Own W noX [] W' :=
  Ret.of (Any.strings_Trim_laid Tryd.lays160 (by kernel_rfl) s ⟨#[97, 98, 99, 100, 101, 102, 103, 104, 105, 106, 107, 108, 109, 110, 111, 112, 113, 114, 115, 116, 117, 118, 119, 120, 121, 122, 48, 49, 50, 51, 52, 53, 54, 55, 56, 57, 45]⟩ W hs (by decide) (ascii_of_all (by decide))) fun _ _ ⟨he, hb⟩ => ⟨_, he, rfl, own_below hb⟩
theorem hasPrefix_ret (s : ByteArray) (W : World) : Ret Tryd.prog 20 #[.string s, .string ⟨#[45]⟩] W fun v W' => v = .bool (Lib.hasPrefix s.data.toList [45]) ∧ Own W noX [] W' :=
  Ret.of (Any.strings_HasPrefix Tryd.lays99 s ⟨#[45]⟩ W) fun _ _ ⟨he, hw⟩ => ⟨_, he, rfl, by rw [hw]; exact Own.start W _⟩
theorem hasSuffix_ret (s : ByteArray) (W : World) (hs : s.size ≤ 9223372036854775807) : Ret Tryd.prog 21 #[.string s, .string ⟨#[45]⟩] W fun v W' => v = .bool (Lib.hasSuffix s.data.toList [45]) ∧ Own W noX [] W' :=
  Ret.of (Any.strings_HasSuffix Tryd.lays100 s ⟨#[45]⟩ W hs) fun _ _ ⟨he, hw⟩ => ⟨_, he, rfl, by rw [hw]; exact Own.start W _⟩
theorem cut_ret (s : ByteArray) (W : World) (m : Int) (hs : s.size ≤ 1000000) (hM : W.cell? ⟨18, 0, none⟩ = some (.int .i64 m)) : Ret Tryd.prog 18 #[.string s, .string ⟨#[47]⟩] W fun v W' => v = .tuple #[.string ⟨(Lib.cut s.data.toList [47]).1.toArray⟩, .string ⟨(Lib.cut s.data.toList [47]).2.1.toArray⟩, .bool (Lib.cut s.data.toList [47]).2.2] ∧ Own W noX [] W' :=
  Ret.of (Any.strings_Cut Tryd.lays145 s ⟨#[47]⟩ m W (by omega) hM) fun _ _ ⟨he, k, hw⟩ => ⟨_, he, rfl, by rw [hw]; exact own_drewN W _ k⟩

set_option maxRecDepth 20000 in
theorem names_Label (s : ByteArray) (W : World) (hs : s.size ≤ 9223372036854775807) : Ret Tryd.prog 8 #[.string s] W fun v W' => v = .bool (labelB s) ∧ Own W noX [] W' := by
  refine enter Tryd.func8 rfl (n := 27) rfl (by kernel_rfl) (E0 := [(0, .string s)]) (by kernel_rfl) ?_
  intro a hF; have hO := Own.start W noX
  refine wp_seq_k fun K1 hK1 => ?_
  refine wp_region_lit ?_
  refine L_val hF (by kernel_rfl) (by kernel_rfl) (v := .bool false) (by kernel_rfl) (by kernel_rfl) ?_
  clear hF; intro a hF
  refine L_nil ?_
  refine hK1 _ _ ?_
  refine wp_seq_k fun K2 hK2 => ?_
  refine wp_region_lit ?_
  refine L_val hF (by kernel_rfl) (by kernel_rfl) (v := .string s) (by kernel_rfl) (by kernel_rfl) ?_
  clear hF; intro a hF
  refine L_call hF (by kernel_rfl) (by kernel_rfl) (by kernel_rfl) (by kernel_rfl) (trim_ret s W (by omega)) ?_
  clear hF; rintro _ W1 a ⟨rfl, hk⟩ hF
  replace hO := hO.call0 hk; clear hk
  refine L_val hF (by kernel_rfl) (by kernel_rfl) (v := .bool (strEq ⟨(Lib.trimS s.data.toList labSet).toArray⟩ (⟨#[]⟩ : ByteArray))) (by kernel_rfl) (by kernel_rfl) ?_
  clear hF; intro a hF
  refine L_val hF (by kernel_rfl) (by kernel_rfl) (v := .bool (strEq ⟨(Lib.trimS s.data.toList labSet).toArray⟩ (⟨#[]⟩ : ByteArray))) (by kernel_rfl) (by kernel_rfl) ?_
  clear hF; intro a hF
  by_cases q1 : ⟨(Lib.trimS s.data.toList labSet).toArray⟩ = (⟨#[]⟩ : ByteArray)
  ·
    replace hF := hF.know (d := 7) (v' := .bool true) (by kernel_rfl) (congrArg Value.bool (strEq_iff.2 q1))
    refine L_val hF (by kernel_rfl) (by kernel_rfl) (v := .string s) (by kernel_rfl) (by kernel_rfl) ?_
    clear hF; intro a hF
    refine L_call hF (by kernel_rfl) (by kernel_rfl) (by kernel_rfl) (by kernel_rfl) (hasPrefix_ret s W1) ?_
    clear hF; rintro _ W2 a ⟨rfl, hk⟩ hF
    replace hO := hO.call0 hk; clear hk
    refine L_val hF (by kernel_rfl) (by kernel_rfl) (v := .bool (!(Lib.hasPrefix s.data.toList [45]))) (by kernel_rfl) (by kernel_rfl) ?_
    clear hF; intro a hF
    refine L_val hF (by kernel_rfl) (by kernel_rfl) (v := .bool (!(Lib.hasPrefix s.data.toList [45]))) (by kernel_rfl) (by kernel_rfl) ?_
    clear hF; intro a hF
    refine L_val hF (by kernel_rfl) (by kernel_rfl) (v := .bool (!(Lib.hasPrefix s.data.toList [45]))) (by kernel_rfl) (by kernel_rfl) ?_
    clear hF; intro a hF
    cases q2 : (Lib.hasPrefix s.data.toList [45] : Bool)
    ·
      replace hF := hF.know (d := 12) (v' := .bool true) (by kernel_rfl) (congrArg Value.bool (notT q2))
      refine L_val hF (by kernel_rfl) (by kernel_rfl) (v := .string s) (by kernel_rfl) (by kernel_rfl) ?_
      clear hF; intro a hF
      refine L_call hF (by kernel_rfl) (by kernel_rfl) (by kernel_rfl) (by kernel_rfl) (hasSuffix_ret s W2 (by omega)) ?_
      clear hF; rintro _ W3 a ⟨rfl, hk⟩ hF
      replace hO := hO.call0 hk; clear hk
      refine L_val hF (by kernel_rfl) (by kernel_rfl) (v := .bool (!(Lib.hasSuffix s.data.toList [45]))) (by kernel_rfl) (by kernel_rfl) ?_
      clear hF; intro a hF
      refine L_val hF (by kernel_rfl) (by kernel_rfl) (v := .bool (!(Lib.hasSuffix s.data.toList [45]))) (by kernel_rfl) (by kernel_rfl) ?_
      clear hF; intro a hF
      refine L_val hF (by kernel_rfl) (by kernel_rfl) (v := .bool (!(Lib.hasSuffix s.data.toList [45]))) (by kernel_rfl) (by kernel_rfl) ?_
      clear hF; intro a hF
      refine L_nil ?_
      refine hK2 _ _ ?_
      refine wp_seq_k fun K3 hK3 => ?_
      refine wp_region_lit ?_
      refine L_val hF (by kernel_rfl) (by kernel_rfl) (v := .bool (!(Lib.hasSuffix s.data.toList [45]))) (by kernel_rfl) (by kernel_rfl) ?_
      clear hF; intro a hF
      refine L_val hF (by kernel_rfl) (by kernel_rfl) (v := .bool (!(Lib.hasSuffix s.data.toList [45]))) (by kernel_rfl) (by kernel_rfl) ?_
      clear hF; intro a hF
      cases q3 : (Lib.hasSuffix s.data.toList [45] : Bool)
      ·
        replace hF := hF.know (d := 18) (v' := .bool true) (by kernel_rfl) (congrArg Value.bool (notT q3))
        refine L_val hF (by kernel_rfl) (by kernel_rfl) (v := .string s) (by kernel_rfl) (by kernel_rfl) ?_
        clear hF; intro a hF
        refine L_val hF (by kernel_rfl) (by kernel_rfl) (v := .bool (!(strEq s (⟨#[]⟩ : ByteArray)))) (by kernel_rfl) (by kernel_rfl) ?_
        clear hF; intro a hF
        refine L_val hF (by kernel_rfl) (by kernel_rfl) (v := .bool (!(strEq s (⟨#[]⟩ : ByteArray)))) (by kernel_rfl) (by kernel_rfl) ?_
        clear hF; intro a hF
        refine L_val hF (by kernel_rfl) (by kernel_rfl) (v := .bool (!(strEq s (⟨#[]⟩ : ByteArray)))) (by kernel_rfl) (by kernel_rfl) ?_
        clear hF; intro a hF
        by_cases q4 : ¬ (s = (⟨#[]⟩ : ByteArray))
        ·
          replace hF := hF.know (d := 22) (v' := .bool true) (by kernel_rfl) (congrArg Value.bool (notT (strEq_false.2 q4)))
          refine L_val hF (by kernel_rfl) (by kernel_rfl) (v := .string s) (by kernel_rfl) (by kernel_rfl) ?_
          clear hF; intro a hF
          refine L_val hF (by kernel_rfl) (by kernel_rfl) (v := .int .i64 ((s.size : Int))) (by kernel_rfl) (by kernel_rfl) ?_
          clear hF; intro a hF
          refine L_val hF (by kernel_rfl) (by kernel_rfl) (v := .bool (decide ((s.size : Int) ≤ 15))) (by kernel_rfl) (by kernel_rfl) ?_
          clear hF; intro a hF
          refine L_val hF (by kernel_rfl) (by kernel_rfl) (v := .bool (decide ((s.size : Int) ≤ 15))) (by kernel_rfl) (by kernel_rfl) ?_
          clear hF; intro a hF
          refine L_val hF (by kernel_rfl) (by kernel_rfl) (v := .bool (decide ((s.size : Int) ≤ 15))) (by kernel_rfl) (by kernel_rfl) ?_
          clear hF; intro a hF
          refine L_nil ?_
          refine hK3 _ _ ?_
          refine wp_ret ?_
          -- way 1: ⟨(Lib.trimS s.data.toList labSet).toArray⟩ = (⟨#[]⟩ : ByteArray); ¬ Lib.hasPrefix s.data.toList [45]; ¬ Lib.hasSuffix s.data.toList [45]; ¬ (s = (⟨#[]⟩ : ByteArray))
          refine ret1 hF (v := .bool (decide ((s.size : Int) ≤ 15))) rfl (resT (by kernel_rfl)) (by refine ⟨?_, hO.nil⟩; rw [← label_eq]; (first | (simp [strEq_dec, *]; done) | (simp [strEq_dec, *]; omega))) .ret (.inl rfl)
        ·
          replace hF := hF.know (d := 22) (v' := .bool false) (by kernel_rfl) (congrArg Value.bool (notF (strEq_iff.2 (Decidable.of_not_not q4))))
          refine L_off hF (by kernel_rfl) (by kernel_rfl) ?_
          clear hF; intro a hF
          refine L_off hF (by kernel_rfl) (by kernel_rfl) ?_
          clear hF; intro a hF
          refine L_off hF (by kernel_rfl) (by kernel_rfl) ?_
          clear hF; intro a hF
          refine L_val hF (by kernel_rfl) (by kernel_rfl) (v := .bool false) (by kernel_rfl) (by kernel_rfl) ?_
          clear hF; intro a hF
          refine L_val hF (by kernel_rfl) (by kernel_rfl) (v := .bool false) (by kernel_rfl) (by kernel_rfl) ?_
          clear hF; intro a hF
          refine L_nil ?_
          refine hK3 _ _ ?_
          refine wp_ret ?_
          -- way 2: ⟨(Lib.trimS s.data.toList labSet).toArray⟩ = (⟨#[]⟩ : ByteArray); ¬ Lib.hasPrefix s.data.toList [45]; ¬ Lib.hasSuffix s.data.toList [45]; ¬ ¬ (s = (⟨#[]⟩ : ByteArray))
          refine ret1 hF (v := .bool false) rfl (resT (by kernel_rfl)) (by refine ⟨?_, hO.nil⟩; rw [← label_eq]; (first | (simp [strEq_dec, *]; done) | (simp [strEq_dec, *]; omega))) .ret (.inl rfl)
      ·
        replace hF := hF.know (d := 18) (v' := .bool false) (by kernel_rfl) (congrArg Value.bool (notF q3))
        refine L_off hF (by kernel_rfl) (by kernel_rfl) ?_
        clear hF; intro a hF
        refine L_off hF (by kernel_rfl) (by kernel_rfl) ?_
        clear hF; intro a hF
        refine L_val hF (by kernel_rfl) (by kernel_rfl) (v := .bool false) (by kernel_rfl) (by kernel_rfl) ?_
        clear hF; intro a hF
        refine L_val hF (by kernel_rfl) (by kernel_rfl) (v := .bool false) (by kernel_rfl) (by kernel_rfl) ?_
        clear hF; intro a hF
        refine L_off hF (by kernel_rfl) (by kernel_rfl) ?_
        clear hF; intro a hF
        refine L_off hF (by kernel_rfl) (by kernel_rfl) ?_
        clear hF; intro a hF
        refine L_off hF (by kernel_rfl) (by kernel_rfl) ?_
        clear hF; intro a hF
        refine L_val hF (by kernel_rfl) (by kernel_rfl) (v := .bool false) (by kernel_rfl) (by kernel_rfl) ?_
        clear hF; intro a hF
        refine L_val hF (by kernel_rfl) (by kernel_rfl) (v := .bool false) (by kernel_rfl) (by kernel_rfl) ?_
        clear hF; intro a hF
        refine L_nil ?_
        refine hK3 _ _ ?_
        refine wp_ret ?_
        -- way 3: ⟨(Lib.trimS s.data.toList labSet).toArray⟩ = (⟨#[]⟩ : ByteArray); ¬ Lib.hasPrefix s.data.toList [45]; Lib.hasSuffix s.data.toList [45]
        refine ret1 hF (v := .bool false) rfl (resT (by kernel_rfl)) (by refine ⟨?_, hO.nil⟩; rw [← label_eq]; (first | (simp [strEq_dec, *]; done) | (simp [strEq_dec, *]; omega))) .ret (.inl rfl)
    ·
      replace hF := hF.know (d := 12) (v' := .bool false) (by kernel_rfl) (congrArg Value.bool (notF q2))
      refine L_off hF (by kernel_rfl) (by kernel_rfl) ?_
      clear hF; intro a hF
      refine L_off hF (by kernel_rfl) (by kernel_rfl) ?_
      clear hF; intro a hF
      refine L_off hF (by kernel_rfl) (by kernel_rfl) ?_
      clear hF; intro a hF
      refine L_val hF (by kernel_rfl) (by kernel_rfl) (v := .bool false) (by kernel_rfl) (by kernel_rfl) ?_
      clear hF; intro a hF
      refine L_val hF (by kernel_rfl) (by kernel_rfl) (v := .bool false) (by kernel_rfl) (by kernel_rfl) ?_
      clear hF; intro a hF
      refine L_nil ?_
      refine hK2 _ _ ?_
      refine wp_seq_k fun K4 hK4 => ?_
      refine wp_region_lit ?_
      refine L_val hF (by kernel_rfl) (by kernel_rfl) (v := .bool false) (by kernel_rfl) (by kernel_rfl) ?_
      clear hF; intro a hF
      refine L_val hF (by kernel_rfl) (by kernel_rfl) (v := .bool false) (by kernel_rfl) (by kernel_rfl) ?_
      clear hF; intro a hF
      refine L_off hF (by kernel_rfl) (by kernel_rfl) ?_
      clear hF; intro a hF
      refine L_off hF (by kernel_rfl) (by kernel_rfl) ?_
      clear hF; intro a hF
      refine L_val hF (by kernel_rfl) (by kernel_rfl) (v := .bool false) (by kernel_rfl) (by kernel_rfl) ?_
      clear hF; intro a hF
      refine L_val hF (by kernel_rfl) (by kernel_rfl) (v := .bool false) (by kernel_rfl) (by kernel_rfl) ?_
      clear hF; intro a hF
      refine L_off hF (by kernel_rfl) (by kernel_rfl) ?_
      clear hF; intro a hF
      refine L_off hF (by kernel_rfl) (by kernel_rfl) ?_
      clear hF; intro a hF
      refine L_off hF (by kernel_rfl) (by kernel_rfl) ?_
      clear hF; intro a hF
      refine L_val hF (by kernel_rfl) (by kernel_rfl) (v := .bool false) (by kernel_rfl) (by kernel_rfl) ?_
      clear hF; intro a hF
      refine L_val hF (by kernel_rfl) (by kernel_rfl) (v := .bool false) (by kernel_rfl) (by kernel_rfl) ?_
      clear hF; intro a hF
      refine L_nil ?_
      refine hK4 _ _ ?_
      refine wp_ret ?_
      -- way 4: ⟨(Lib.trimS s.data.toList labSet).toArray⟩ = (⟨#[]⟩ : ByteArray); Lib.hasPrefix s.data.toList [45]
      refine ret1 hF (v := .bool false) rfl (resT (by kernel_rfl)) (by refine ⟨?_, hO.nil⟩; rw [← label_eq]; (first | (simp [strEq_dec, *]; done) | (simp [strEq_dec, *]; omega))) .ret (.inl rfl)
  ·
    replace hF := hF.know (d := 7) (v' := .bool false) (by kernel_rfl) (congrArg Value.bool (strEq_false.2 q1))
    refine L_off hF (by kernel_rfl) (by kernel_rfl) ?_
    clear hF; intro a hF
    refine L_off hF (by kernel_rfl) (by kernel_rfl) ?_
    clear hF; intro a hF
    refine L_off hF (by kernel_rfl) (by kernel_rfl) ?_
    clear hF; intro a hF
    refine L_val hF (by kernel_rfl) (by kernel_rfl) (v := .bool false) (by kernel_rfl) (by kernel_rfl) ?_
    clear hF; intro a hF
    refine L_val hF (by kernel_rfl) (by kernel_rfl) (v := .bool false) (by kernel_rfl) (by kernel_rfl) ?_
    clear hF; intro a hF
    refine L_off hF (by kernel_rfl) (by kernel_rfl) ?_
    clear hF; intro a hF
    refine L_off hF (by kernel_rfl) (by kernel_rfl) ?_
    clear hF; intro a hF
    refine L_off hF (by kernel_rfl) (by kernel_rfl) ?_
    clear hF; intro a hF
    refine L_val hF (by kernel_rfl) (by kernel_rfl) (v := .bool false) (by kernel_rfl) (by kernel_rfl) ?_
    clear hF; intro a hF
    refine L_val hF (by kernel_rfl) (by kernel_rfl) (v := .bool false) (by kernel_rfl) (by kernel_rfl) ?_
    clear hF; intro a hF
    refine L_nil ?_
    refine hK2 _ _ ?_
    refine wp_seq_k fun K5 hK5 => ?_
    refine wp_region_lit ?_
    refine L_val hF (by kernel_rfl) (by kernel_rfl) (v := .bool false) (by kernel_rfl) (by kernel_rfl) ?_
    clear hF; intro a hF
    refine L_val hF (by kernel_rfl) (by kernel_rfl) (v := .bool false) (by kernel_rfl) (by kernel_rfl) ?_
    clear hF; intro a hF
    refine L_off hF (by kernel_rfl) (by kernel_rfl) ?_
    clear hF; intro a hF
    refine L_off hF (by kernel_rfl) (by kernel_rfl) ?_
    clear hF; intro a hF
    refine L_val hF (by kernel_rfl) (by kernel_rfl) (v := .bool false) (by kernel_rfl) (by kernel_rfl) ?_
    clear hF; intro a hF
    refine L_val hF (by kernel_rfl) (by kernel_rfl) (v := .bool false) (by kernel_rfl) (by kernel_rfl) ?_
    clear hF; intro a hF
    refine L_off hF (by kernel_rfl) (by kernel_rfl) ?_
    clear hF; intro a hF
    refine L_off hF (by kernel_rfl) (by kernel_rfl) ?_
    clear hF; intro a hF
    refine L_off hF (by kernel_rfl) (by kernel_rfl) ?_
    clear hF; intro a hF
    refine L_val hF (by kernel_rfl) (by kernel_rfl) (v := .bool false) (by kernel_rfl) (by kernel_rfl) ?_
    clear hF; intro a hF
    refine L_val hF (by kernel_rfl) (by kernel_rfl) (v := .bool false) (by kernel_rfl) (by kernel_rfl) ?_
    clear hF; intro a hF
    refine L_nil ?_
    refine hK5 _ _ ?_
    refine wp_ret ?_
    -- way 5: ¬ ⟨(Lib.trimS s.data.toList labSet).toArray⟩ = (⟨#[]⟩ : ByteArray)
    refine ret1 hF (v := .bool false) rfl (resT (by kernel_rfl)) (by refine ⟨?_, hO.nil⟩; rw [← label_eq]; (first | (simp [strEq_dec, *]; done) | (simp [strEq_dec, *]; omega))) .ret (.inl rfl)

set_option maxRecDepth 20000 in
theorem names_Key (k : Key) (W : World) (h1 : k.space.size ≤ 9223372036854775807) (h2 : k.name.size ≤ 9223372036854775807) : Ret Tryd.prog 10 #[keyV k] W fun v W' => v = .bool (keyB k) ∧ Own W noX [] W' := by
  refine enter Tryd.func10 rfl (n := 11) rfl (by kernel_rfl) (E0 := [(0, keyV k)]) (by kernel_rfl) ?_
  intro a hF; have hO := Own.start W noX
  refine wp_seq_k fun K1 hK1 => ?_
  refine wp_region_lit ?_
  refine L_new hF hO (by kernel_rfl) (by kernel_rfl) (vf := fun b => .pointer (some ⟨b, 0, none⟩)) (ob := .cells #[.string k.space, .string k.name] 23) (by kernel_rfl) (by kernel_rfl) ?_
  clear hF hO; intro b1 W1 a hO hF
  refine L_val hF (by kernel_rfl) (by kernel_rfl) (v := .bool false) (by kernel_rfl) (by kernel_rfl) ?_
  clear hF; intro a hF
  refine L_nil ?_
  refine hK1 _ _ ?_
  refine wp_seq_k fun K2 hK2 => ?_
  refine wp_region_lit ?_
  refine L_val hF (by kernel_rfl) (by kernel_rfl) (v := .pointer (some ⟨b1, 0, none⟩)) (by kernel_rfl) (by kernel_rfl) ?_
  clear hF; intro a hF
  refine L_val hF (by kernel_rfl) (by kernel_rfl) (v := .string k.space) (x_load (p := .pointer (some ⟨b1, 0, none⟩)) rfl (by kernel_rfl) (run_load1 (by kernel_rfl) ((hO.cell List.mem_cons_self).trans (by kernel_rfl)))) (by kernel_rfl) ?_
  clear hF; intro a hF
  refine L_call hF (by kernel_rfl) (by kernel_rfl) (by kernel_rfl) (by kernel_rfl) (names_Label k.space W1 (by omega)) ?_
  clear hF; rintro _ W2 a ⟨rfl, hk⟩ hF
  replace hO := hO.call0 hk; clear hk
  refine L_val hF (by kernel_rfl) (by kernel_rfl) (v := .bool (labelB k.space)) (by kernel_rfl) (by kernel_rfl) ?_
  clear hF; intro a hF
  cases q1 : (labelB k.space : Bool)
  ·
    replace hF := hF.know (d := 6) (v' := .bool false) (by kernel_rfl) (congrArg Value.bool q1)
    refine L_off hF (by kernel_rfl) (by kernel_rfl) ?_
    clear hF; intro a hF
    refine L_off hF (by kernel_rfl) (by kernel_rfl) ?_
    clear hF; intro a hF
    refine L_off hF (by kernel_rfl) (by kernel_rfl) ?_
    clear hF; intro a hF
    refine L_val hF (by kernel_rfl) (by kernel_rfl) (v := .bool false) (by kernel_rfl) (by kernel_rfl) ?_
    clear hF; intro a hF
    refine L_val hF (by kernel_rfl) (by kernel_rfl) (v := .bool false) (by kernel_rfl) (by kernel_rfl) ?_
    clear hF; intro a hF
    refine L_nil ?_
    refine hK2 _ _ ?_
    refine wp_ret ?_
    -- way 1: ¬ labelB k.space
    refine ret1 hF (v := .bool false) rfl (resT (by kernel_rfl)) (by refine ⟨?_, hO.nil⟩; unfold keyB; simp [*]) .ret (.inl rfl)
  ·
    replace hF := hF.know (d := 6) (v' := .bool true) (by kernel_rfl) (congrArg Value.bool q1)
    refine L_val hF (by kernel_rfl) (by kernel_rfl) (v := .pointer (some ⟨b1, 1, none⟩)) (by kernel_rfl) (by kernel_rfl) ?_
    clear hF; intro a hF
    refine L_val hF (by kernel_rfl) (by kernel_rfl) (v := .string k.name) (x_load (p := .pointer (some ⟨b1, 1, none⟩)) rfl (by kernel_rfl) (run_load1 (by kernel_rfl) ((hO.cell List.mem_cons_self).trans (by kernel_rfl)))) (by kernel_rfl) ?_
    clear hF; intro a hF
    refine L_call hF (by kernel_rfl) (by kernel_rfl) (by kernel_rfl) (by kernel_rfl) (names_Label k.name W2 (by omega)) ?_
    clear hF; rintro _ W3 a ⟨rfl, hk⟩ hF
    replace hO := hO.call0 hk; clear hk
    refine L_val hF (by kernel_rfl) (by kernel_rfl) (v := .bool (labelB k.name)) (by kernel_rfl) (by kernel_rfl) ?_
    clear hF; intro a hF
    refine L_val hF (by kernel_rfl) (by kernel_rfl) (v := .bool (labelB k.name)) (by kernel_rfl) (by kernel_rfl) ?_
    clear hF; intro a hF
    refine L_nil ?_
    refine hK2 _ _ ?_
    refine wp_ret ?_
    -- way 2: labelB k.space
    refine ret1 hF (v := .bool (labelB k.name)) rfl (resT (by kernel_rfl)) (by refine ⟨?_, hO.nil⟩; unfold keyB; simp [*]) .ret (.inl rfl)

set_option maxRecDepth 20000 in
theorem ref05_Label (s : ByteArray) (W : World) (hs : s.size ≤ 9223372036854775807) : Ret Tryd.prog 9 #[.string s] W fun v W' => v = .bool (labelB s) ∧ Own W noX [] W' := by
  refine enter Tryd.func9 rfl (n := 55) rfl (by kernel_rfl) (E0 := [(0, .string s)]) (by kernel_rfl) ?_
  intro a hF; have hO := Own.start W noX
  refine wp_seq_k fun K1 hK1 => ?_
  refine wp_region_lit ?_
  refine L_val hF (by kernel_rfl) (by kernel_rfl) (v := .bool false) (by kernel_rfl) (by kernel_rfl) ?_
  clear hF; intro a hF
  refine L_nil ?_
  refine hK1 _ _ ?_
  refine wp_seq_k fun K2 hK2 => ?_
  refine wp_seq_k fun K3 hK3 => ?_
  refine wp_region_lit ?_
  refine L_val hF (by kernel_rfl) (by kernel_rfl) (v := .string s) (by kernel_rfl) (by kernel_rfl) ?_
  clear hF; intro a hF
  refine L_val hF (by kernel_rfl) (by kernel_rfl) (v := .int .i64 ((s.size : Int))) (by kernel_rfl) (by kernel_rfl) ?_
  clear hF; intro a hF
  refine L_val hF (by kernel_rfl) (by kernel_rfl) (v := .bool (decide ((s.size : Int) < 1))) (by kernel_rfl) (by kernel_rfl) ?_
  clear hF; intro a hF
  refine L_val hF (by kernel_rfl) (by kernel_rfl) (v := .bool (decide ((s.size : Int) < 1))) (by kernel_rfl) (by kernel_rfl) ?_
  clear hF; intro a hF
  by_cases q1 : (s.size : Int) < 1
  ·
    replace hF := hF.know (d := 8) (v' := .bool true) (by kernel_rfl) (congrArg Value.bool (decide_eq_true q1))
    refine L_off hF (by kernel_rfl) (by kernel_rfl) ?_
    clear hF; intro a hF
    refine L_off hF (by kernel_rfl) (by kernel_rfl) ?_
    clear hF; intro a hF
    refine L_off hF (by kernel_rfl) (by kernel_rfl) ?_
    clear hF; intro a hF
    refine L_val hF (by kernel_rfl) (by kernel_rfl) (v := .bool true) (by kernel_rfl) (by kernel_rfl) ?_
    clear hF; intro a hF
    refine L_val hF (by kernel_rfl) (by kernel_rfl) (v := .bool true) (by kernel_rfl) (by kernel_rfl) ?_
    clear hF; intro a hF
    refine L_off hF (by kernel_rfl) (by kernel_rfl) ?_
    clear hF; intro a hF
    refine L_off hF (by kernel_rfl) (by kernel_rfl) ?_
    clear hF; intro a hF
    refine L_off hF (by kernel_rfl) (by kernel_rfl) ?_
    clear hF; intro a hF
    refine L_val hF (by kernel_rfl) (by kernel_rfl) (v := .bool true) (by kernel_rfl) (by kernel_rfl) ?_
    clear hF; intro a hF
    refine L_val hF (by kernel_rfl) (by kernel_rfl) (v := .bool true) (by kernel_rfl) (by kernel_rfl) ?_
    clear hF; intro a hF
    refine L_off hF (by kernel_rfl) (by kernel_rfl) ?_
    clear hF; intro a hF
    refine L_off hF (by kernel_rfl) (by kernel_rfl) ?_
    clear hF; intro a hF
    refine L_off hF (by kernel_rfl) (by kernel_rfl) ?_
    clear hF; intro a hF
    refine L_off hF (by kernel_rfl) (by kernel_rfl) ?_
    clear hF; intro a hF
    refine L_off hF (by kernel_rfl) (by kernel_rfl) ?_
    clear hF; intro a hF
    refine L_off hF (by kernel_rfl) (by kernel_rfl) ?_
    clear hF; intro a hF
    refine L_val hF (by kernel_rfl) (by kernel_rfl) (v := .bool true) (by kernel_rfl) (by kernel_rfl) ?_
    clear hF; intro a hF
    refine L_nil ?_
    refine hK3 _ _ ?_
    refine cond_t hF (by kernel_rfl) (by kernel_rfl) ?_
    refine wp_seq_k fun K4 hK4 => ?_
    refine wp_region_lit ?_
    refine L_val hF (by kernel_rfl) (by kernel_rfl) (v := .bool false) (by kernel_rfl) (by kernel_rfl) ?_
    clear hF; intro a hF
    refine L_nil ?_
    refine hK4 _ _ ?_
    refine wp_ret ?_
    refine then_ret ?_
    -- way 1: (s.size : Int) < 1
    refine ret1 hF (v := .bool false) rfl (resT (by kernel_rfl)) (by refine ⟨?_, hO.nil⟩; first | exact congrArg Value.bool (labelB_head s (by omega)).symm | exact congrArg Value.bool (labelB_no s i (by omega) (by unfold chOK; omega)).symm | exact congrArg Value.bool (labelB_yes s (by omega) (by have := hI.2; rwa [List.take_of_length_le (by show s.size ≤ i; omega)] at this)).symm) .ret (.inl rfl)
  ·
    replace hF := hF.know (d := 8) (v' := .bool false) (by kernel_rfl) (congrArg Value.bool (decide_eq_false q1))
    refine L_val hF (by kernel_rfl) (by kernel_rfl) (v := .string s) (by kernel_rfl) (by kernel_rfl) ?_
    clear hF; intro a hF
    refine L_val hF (by kernel_rfl) (by kernel_rfl) (v := .int .i64 ((s.size : Int))) (by kernel_rfl) (by kernel_rfl) ?_
    clear hF; intro a hF
    refine L_val hF (by kernel_rfl) (by kernel_rfl) (v := .bool (decide ((s.size : Int) > 15))) (by kernel_rfl) (by kernel_rfl) ?_
    clear hF; intro a hF
    refine L_val hF (by kernel_rfl) (by kernel_rfl) (v := .bool (decide ((s.size : Int) > 15))) (by kernel_rfl) (by kernel_rfl) ?_
    clear hF; intro a hF
    refine L_val hF (by kernel_rfl) (by kernel_rfl) (v := .bool (decide ((s.size : Int) > 15))) (by kernel_rfl) (by kernel_rfl) ?_
    clear hF; intro a hF
    by_cases q2 : (s.size : Int) > 15
    ·
      replace hF := hF.know (d := 13) (v' := .bool true) (by kernel_rfl) (congrArg Value.bool (decide_eq_true q2))
      refine L_off hF (by kernel_rfl) (by kernel_rfl) ?_
      clear hF; intro a hF
      refine L_off hF (by kernel_rfl) (by kernel_rfl) ?_
      clear hF; intro a hF
      refine L_off hF (by kernel_rfl) (by kernel_rfl) ?_
      clear hF; intro a hF
      refine L_val hF (by kernel_rfl) (by kernel_rfl) (v := .bool true) (by kernel_rfl) (by kernel_rfl) ?_
      clear hF; intro a hF
      refine L_val hF (by kernel_rfl) (by kernel_rfl) (v := .bool true) (by kernel_rfl) (by kernel_rfl) ?_
      clear hF; intro a hF
      refine L_off hF (by kernel_rfl) (by kernel_rfl) ?_
      clear hF; intro a hF
      refine L_off hF (by kernel_rfl) (by kernel_rfl) ?_
      clear hF; intro a hF
      refine L_off hF (by kernel_rfl) (by kernel_rfl) ?_
      clear hF; intro a hF
      refine L_off hF (by kernel_rfl) (by kernel_rfl) ?_
      clear hF; intro a hF
      refine L_off hF (by kernel_rfl) (by kernel_rfl) ?_
      clear hF; intro a hF
      refine L_off hF (by kernel_rfl) (by kernel_rfl) ?_
      clear hF; intro a hF
      refine L_val hF (by kernel_rfl) (by kernel_rfl) (v := .bool true) (by kernel_rfl) (by kernel_rfl) ?_
      clear hF; intro a hF
      refine L_nil ?_
      refine hK3 _ _ ?_
      refine cond_t hF (by kernel_rfl) (by kernel_rfl) ?_
      refine wp_seq_k fun K5 hK5 => ?_
      refine wp_region_lit ?_
      refine L_val hF (by kernel_rfl) (by kernel_rfl) (v := .bool false) (by kernel_rfl) (by kernel_rfl) ?_
      clear hF; intro a hF
      refine L_nil ?_
      refine hK5 _ _ ?_
      refine wp_ret ?_
      refine then_ret ?_
      -- way 2: ¬ (s.size : Int) < 1; (s.size : Int) > 15
      refine ret1 hF (v := .bool false) rfl (resT (by kernel_rfl)) (by refine ⟨?_, hO.nil⟩; first | exact congrArg Value.bool (labelB_head s (by omega)).symm | exact congrArg Value.bool (labelB_no s i (by omega) (by unfold chOK; omega)).symm | exact congrArg Value.bool (labelB_yes s (by omega) (by have := hI.2; rwa [List.take_of_length_le (by show s.size ≤ i; omega)] at this)).symm) .ret (.inl rfl)
    ·
      replace hF := hF.know (d := 13) (v' := .bool false) (by kernel_rfl) (congrArg Value.bool (decide_eq_false q2))
      refine L_val hF (by kernel_rfl) (by kernel_rfl) (v := .string s) (by kernel_rfl) (by kernel_rfl) ?_
      clear hF; intro a hF
      refine L_val hF (by kernel_rfl) (by kernel_rfl) (v := .int .u8 (bt s 0)) (x_idxStr (s := s) (k := .i64) (i := 0) rfl (by kernel_rfl) (by kernel_rfl) (by kernel_rfl) (by omega) (by omega)) (by kernel_rfl) ?_
      clear hF; intro a hF
      refine L_val hF (by kernel_rfl) (by kernel_rfl) (v := .bool ((bt s 0) == 45)) (by kernel_rfl) (by kernel_rfl) ?_
      clear hF; intro a hF
      refine L_val hF (by kernel_rfl) (by kernel_rfl) (v := .bool ((bt s 0) == 45)) (by kernel_rfl) (by kernel_rfl) ?_
      clear hF; intro a hF
      refine L_val hF (by kernel_rfl) (by kernel_rfl) (v := .bool ((bt s 0) == 45)) (by kernel_rfl) (by kernel_rfl) ?_
      clear hF; intro a hF
      by_cases q3 : bt s 0 = 45
      ·
        replace hF := hF.know (d := 18) (v' := .bool true) (by kernel_rfl) (congrArg Value.bool (eqT q3))
        refine L_off hF (by kernel_rfl) (by kernel_rfl) ?_
        clear hF; intro a hF
        refine L_off hF (by kernel_rfl) (by kernel_rfl) ?_
        clear hF; intro a hF
        refine L_off hF (by kernel_rfl) (by kernel_rfl) ?_
        clear hF; intro a hF
        refine L_off hF (by kernel_rfl) (by kernel_rfl) ?_
        clear hF; intro a hF
        refine L_off hF (by kernel_rfl) (by kernel_rfl) ?_
        clear hF; intro a hF
        refine L_off hF (by kernel_rfl) (by kernel_rfl) ?_
        clear hF; intro a hF
        refine L_val hF (by kernel_rfl) (by kernel_rfl) (v := .bool true) (by kernel_rfl) (by kernel_rfl) ?_
        clear hF; intro a hF
        refine L_nil ?_
        refine hK3 _ _ ?_
        refine cond_t hF (by kernel_rfl) (by kernel_rfl) ?_
        refine wp_seq_k fun K6 hK6 => ?_
        refine wp_region_lit ?_
        refine L_val hF (by kernel_rfl) (by kernel_rfl) (v := .bool false) (by kernel_rfl) (by kernel_rfl) ?_
        clear hF; intro a hF
        refine L_nil ?_
        refine hK6 _ _ ?_
        refine wp_ret ?_
        refine then_ret ?_
        -- way 3: ¬ (s.size : Int) < 1; ¬ (s.size : Int) > 15; bt s 0 = 45
        refine ret1 hF (v := .bool false) rfl (resT (by kernel_rfl)) (by refine ⟨?_, hO.nil⟩; first | exact congrArg Value.bool (labelB_head s (by omega)).symm | exact congrArg Value.bool (labelB_no s i (by omega) (by unfold chOK; omega)).symm | exact congrArg Value.bool (labelB_yes s (by omega) (by have := hI.2; rwa [List.take_of_length_le (by show s.size ≤ i; omega)] at this)).symm) .ret (.inl rfl)
      ·
        replace hF := hF.know (d := 18) (v' := .bool false) (by kernel_rfl) (congrArg Value.bool (eqF q3))
        refine L_val hF (by kernel_rfl) (by kernel_rfl) (v := .string s) (by kernel_rfl) (by kernel_rfl) ?_
        clear hF; intro a hF
        refine L_val hF (by kernel_rfl) (by kernel_rfl) (v := .string s) (by kernel_rfl) (by kernel_rfl) ?_
        clear hF; intro a hF
        refine L_val hF (by kernel_rfl) (by kernel_rfl) (v := .int .i64 ((s.size : Int))) (by kernel_rfl) (by kernel_rfl) ?_
        clear hF; intro a hF
        refine L_val hF (by kernel_rfl) (by kernel_rfl) (v := .int .i64 ((s.size : Int) - 1)) (x_int (x := IntKind.i64.wrap ((s.size : Int) - 1)) (i64In (by omega) (by omega)) (by kernel_rfl)) (by kernel_rfl) ?_
        clear hF; intro a hF
        refine L_val hF (by kernel_rfl) (by kernel_rfl) (v := .int .u8 (bt s ((s.size : Int) - 1))) (x_idxStr (s := s) (k := .i64) (i := (s.size : Int) - 1) rfl (by kernel_rfl) (by kernel_rfl) (by kernel_rfl) (by omega) (by omega)) (by kernel_rfl) ?_
        clear hF; intro a hF
        refine L_val hF (by kernel_rfl) (by kernel_rfl) (v := .bool ((bt s ((s.size : Int) - 1)) == 45)) (by kernel_rfl) (by kernel_rfl) ?_
        clear hF; intro a hF
        refine L_val hF (by kernel_rfl) (by kernel_rfl) (v := .bool ((bt s ((s.size : Int) - 1)) == 45)) (by kernel_rfl) (by kernel_rfl) ?_
        clear hF; intro a hF
        refine L_nil ?_
        refine hK3 _ _ ?_
        by_cases q4 : bt s ((s.size : Int) - 1) = 45
        ·
          replace hF := hF.know (d := 25) (v' := .bool true) (by kernel_rfl) (congrArg Value.bool (eqT q4))
          refine cond_t hF (by kernel_rfl) (by kernel_rfl) ?_
          refine wp_seq_k fun K7 hK7 => ?_
          refine wp_region_lit ?_
          refine L_val hF (by kernel_rfl) (by kernel_rfl) (v := .bool false) (by kernel_rfl) (by kernel_rfl) ?_
          clear hF; intro a hF
          refine L_nil ?_
          refine hK7 _ _ ?_
          refine wp_ret ?_
          refine then_ret ?_
          -- way 4: ¬ (s.size : Int) < 1; ¬ (s.size : Int) > 15; ¬ bt s 0 = 45; bt s ((s.size : Int) - 1) = 45
          refine ret1 hF (v := .bool false) rfl (resT (by kernel_rfl)) (by refine ⟨?_, hO.nil⟩; first | exact congrArg Value.bool (labelB_head s (by omega)).symm | exact congrArg Value.bool (labelB_no s i (by omega) (by unfold chOK; omega)).symm | exact congrArg Value.bool (labelB_yes s (by omega) (by have := hI.2; rwa [List.take_of_length_le (by show s.size ≤ i; omega)] at this)).symm) .ret (.inl rfl)
        ·
          replace hF := hF.know (d := 25) (v' := .bool false) (by kernel_rfl) (congrArg Value.bool (eqF q4))
          refine cond_f hF (by kernel_rfl) (by kernel_rfl) ?_
          refine wp_skip ?_
          refine hK2 _ _ ?_
          refine wp_seq_k fun K8 hK8 => ?_
          refine wp_seq_k fun K9 hK9 => ?_
          refine wp_region_lit ?_
          refine L_val hF (by kernel_rfl) (by kernel_rfl) (v := .int .i64 0) (by kernel_rfl) (by kernel_rfl) ?_
          clear hF; intro a hF
          refine L_nil ?_
          refine hK9 _ _ ?_
          refine wp_block ?_
          refine loopX (τ := Nat) (fun (i : Nat) a Wx => (i ≤ s.size ∧ (s.data.toList.take i).all labCh = true) ∧ Fr 55 a [(0, .string s), (3, .int .i64 ((i : Int)))] ∧ Own W noX [] Wx) (fun (i : Nat) => s.size - i) (0) ⟨⟨Nat.zero_le _, rfl⟩, ?_, ?_⟩ ?_
          · exact hF.restrict ⟨(by kernel_rfl), (congrArg some (by first | rfl | exact congrArg (Value.int _) (by omega) | simp)), trivial⟩
          · exact hO.sub (List.nil_sublist _)
          clear hF hO; rintro i a Wl1 ⟨hI, hF, hO⟩ KhK_1 hK_1
          try dsimp only at hI
          refine wp_seq_k fun K10 hK10 => ?_
          refine wp_seq_k fun K11 hK11 => ?_
          refine wp_region_lit ?_
          refine L_val hF (by kernel_rfl) (by kernel_rfl) (v := .int .i64 ((i : Int))) (by kernel_rfl) (by kernel_rfl) ?_
          clear hF; intro a hF
          refine L_val hF (by kernel_rfl) (by kernel_rfl) (v := .string s) (by kernel_rfl) (by kernel_rfl) ?_
          clear hF; intro a hF
          refine L_val hF (by kernel_rfl) (by kernel_rfl) (v := .int .i64 ((s.size : Int))) (by kernel_rfl) (by kernel_rfl) ?_
          clear hF; intro a hF
          refine L_val hF (by kernel_rfl) (by kernel_rfl) (v := .bool (decide ((i : Int) < (s.size : Int)))) (by kernel_rfl) (by kernel_rfl) ?_
          clear hF; intro a hF
          refine L_nil ?_
          refine hK11 _ _ ?_
          by_cases q5 : (i : Int) < (s.size : Int)
          ·
            replace hF := hF.know (d := 29) (v' := .bool true) (by kernel_rfl) (congrArg Value.bool (decide_eq_true q5))
            refine cond_t hF (by kernel_rfl) (by kernel_rfl) ?_
            refine wp_skip ?_
            refine hK10 _ _ ?_
            refine wp_seq_k fun K12 hK12 => ?_
            refine wp_block ?_
            refine wp_seq_k fun K13 hK13 => ?_
            refine wp_region_lit ?_
            refine L_val hF (by kernel_rfl) (by kernel_rfl) (v := .string s) (by kernel_rfl) (by kernel_rfl) ?_
            clear hF; intro a hF
            refine L_val hF (by kernel_rfl) (by kernel_rfl) (v := .int .i64 ((i : Int))) (by kernel_rfl) (by kernel_rfl) ?_
            clear hF; intro a hF
            refine L_val hF (by kernel_rfl) (by kernel_rfl) (v := .int .u8 (bt s (i : Int))) (x_idxStr (s := s) (k := .i64) (i := (i : Int)) rfl (by kernel_rfl) (by kernel_rfl) (by kernel_rfl) (by omega) (by omega)) (by kernel_rfl) ?_
            clear hF; intro a hF
            refine L_val hF (by kernel_rfl) (by kernel_rfl) (v := .int .u8 (bt s (i : Int))) (by kernel_rfl) (by kernel_rfl) ?_
            clear hF; intro a hF
            refine L_nil ?_
            refine hK13 _ _ ?_
            refine wp_seq_k fun K14 hK14 => ?_
            refine wp_region_lit ?_
            refine L_val hF (by kernel_rfl) (by kernel_rfl) (v := .int .u8 (bt s (i : Int))) (by kernel_rfl) (by kernel_rfl) ?_
            clear hF; intro a hF
            refine L_val hF (by kernel_rfl) (by kernel_rfl) (v := .bool (!((bt s (i : Int)) == 45))) (by kernel_rfl) (by kernel_rfl) ?_
            clear hF; intro a hF
            refine L_val hF (by kernel_rfl) (by kernel_rfl) (v := .bool (!((bt s (i : Int)) == 45))) (by kernel_rfl) (by kernel_rfl) ?_
            clear hF; intro a hF
            by_cases q6 : ¬ bt s (i : Int) = 45
            ·
              replace hF := hF.know (d := 37) (v' := .bool true) (by kernel_rfl) (congrArg Value.bool (neT q6))
              refine L_val hF (by kernel_rfl) (by kernel_rfl) (v := .int .u8 (bt s (i : Int))) (by kernel_rfl) (by kernel_rfl) ?_
              clear hF; intro a hF
              refine L_val hF (by kernel_rfl) (by kernel_rfl) (v := .bool (decide (bt s (i : Int) ≥ 97))) (by kernel_rfl) (by kernel_rfl) ?_
              clear hF; intro a hF
              refine L_val hF (by kernel_rfl) (by kernel_rfl) (v := .bool (decide (bt s (i : Int) ≥ 97))) (by kernel_rfl) (by kernel_rfl) ?_
              clear hF; intro a hF
              by_cases q7 : bt s (i : Int) ≥ 97
              ·
                replace hF := hF.know (d := 40) (v' := .bool true) (by kernel_rfl) (congrArg Value.bool (decide_eq_true q7))
                refine L_val hF (by kernel_rfl) (by kernel_rfl) (v := .int .u8 (bt s (i : Int))) (by kernel_rfl) (by kernel_rfl) ?_
                clear hF; intro a hF
                refine L_val hF (by kernel_rfl) (by kernel_rfl) (v := .bool (decide (bt s (i : Int) ≤ 122))) (by kernel_rfl) (by kernel_rfl) ?_
                clear hF; intro a hF
                refine L_val hF (by kernel_rfl) (by kernel_rfl) (v := .bool (decide (bt s (i : Int) ≤ 122))) (by kernel_rfl) (by kernel_rfl) ?_
                clear hF; intro a hF
                refine L_val hF (by kernel_rfl) (by kernel_rfl) (v := .bool (!(decide (bt s (i : Int) ≤ 122)))) (by kernel_rfl) (by kernel_rfl) ?_
                clear hF; intro a hF
                refine L_val hF (by kernel_rfl) (by kernel_rfl) (v := .bool (!(decide (bt s (i : Int) ≤ 122)))) (by kernel_rfl) (by kernel_rfl) ?_
                clear hF; intro a hF
                refine L_val hF (by kernel_rfl) (by kernel_rfl) (v := .bool (!(decide (bt s (i : Int) ≤ 122)))) (by kernel_rfl) (by kernel_rfl) ?_
                clear hF; intro a hF
                by_cases q8 : ¬ (bt s (i : Int) ≤ 122)
                ·
                  replace hF := hF.know (d := 46) (v' := .bool true) (by kernel_rfl) (congrArg Value.bool (notT (decide_eq_false q8)))
                  refine L_val hF (by kernel_rfl) (by kernel_rfl) (v := .int .u8 (bt s (i : Int))) (by kernel_rfl) (by kernel_rfl) ?_
                  clear hF; intro a hF
                  refine L_val hF (by kernel_rfl) (by kernel_rfl) (v := .bool (decide (bt s (i : Int) ≥ 48))) (by kernel_rfl) (by kernel_rfl) ?_
                  clear hF; intro a hF
                  refine L_val hF (by kernel_rfl) (by kernel_rfl) (v := .bool (decide (bt s (i : Int) ≥ 48))) (by kernel_rfl) (by kernel_rfl) ?_
                  clear hF; intro a hF
                  by_cases q9 : bt s (i : Int) ≥ 48
                  ·
                    replace hF := hF.know (d := 49) (v' := .bool true) (by kernel_rfl) (congrArg Value.bool (decide_eq_true q9))
                    refine L_val hF (by kernel_rfl) (by kernel_rfl) (v := .int .u8 (bt s (i : Int))) (by kernel_rfl) (by kernel_rfl) ?_
                    clear hF; intro a hF
                    refine L_val hF (by kernel_rfl) (by kernel_rfl) (v := .bool (decide (bt s (i : Int) ≤ 57))) (by kernel_rfl) (by kernel_rfl) ?_
                    clear hF; intro a hF
                    refine L_val hF (by kernel_rfl) (by kernel_rfl) (v := .bool (decide (bt s (i : Int) ≤ 57))) (by kernel_rfl) (by kernel_rfl) ?_
                    clear hF; intro a hF
                    refine L_val hF (by kernel_rfl) (by kernel_rfl) (v := .bool (!(decide (bt s (i : Int) ≤ 57)))) (by kernel_rfl) (by kernel_rfl) ?_
                    clear hF; intro a hF
                    refine L_val hF (by kernel_rfl) (by kernel_rfl) (v := .bool (!(decide (bt s (i : Int) ≤ 57)))) (by kernel_rfl) (by kernel_rfl) ?_
                    clear hF; intro a hF
                    refine L_nil ?_
                    refine hK14 _ _ ?_
                    by_cases q10 : ¬ (bt s (i : Int) ≤ 57)
                    ·
                      replace hF := hF.know (d := 54) (v' := .bool true) (by kernel_rfl) (congrArg Value.bool (notT (decide_eq_false q10)))
                      refine cond_t hF (by kernel_rfl) (by kernel_rfl) ?_
                      refine wp_seq_k fun K15 hK15 => ?_
                      refine wp_region_lit ?_
                      refine L_val hF (by kernel_rfl) (by kernel_rfl) (v := .bool false) (by kernel_rfl) (by kernel_rfl) ?_
                      clear hF; intro a hF
                      refine L_nil ?_
                      refine hK15 _ _ ?_
                      refine wp_ret ?_
                      refine block_ret ?_
                      refine then_ret ?_
                      refine then_ret ?_
                      refine block_ret ?_
                      refine then_ret ?_
                      -- way 5: ¬ (s.size : Int) < 1; ¬ (s.size : Int) > 15; ¬ bt s 0 = 45; ¬ bt s ((s.size : Int) - 1) = 45; (i : Int) < (s.size : Int); ¬ bt s (i : Int) = 45; bt s (i : Int) ≥ 97; ¬ (bt s (i : Int) ≤ 122); bt s (i : Int) ≥ 48; ¬ (bt s (i : Int) ≤ 57)
                      refine ret1 hF (v := .bool false) rfl (resT (by kernel_rfl)) (by refine ⟨?_, hO.nil⟩; first | exact congrArg Value.bool (labelB_head s (by omega)).symm | exact congrArg Value.bool (labelB_no s i (by omega) (by unfold chOK; omega)).symm | exact congrArg Value.bool (labelB_yes s (by omega) (by have := hI.2; rwa [List.take_of_length_le (by show s.size ≤ i; omega)] at this)).symm) .ret (.inl rfl)
                    ·
                      replace hF := hF.know (d := 54) (v' := .bool false) (by kernel_rfl) (congrArg Value.bool (notF (decide_eq_true (Decidable.of_not_not q10))))
                      refine cond_f hF (by kernel_rfl) (by kernel_rfl) ?_
                      refine wp_skip ?_
                      refine block_normal ?_
                      refine hK12 _ _ ?_
                      refine wp_region_lit ?_
                      refine L_val hF (by kernel_rfl) (by kernel_rfl) (v := .int .i64 ((i : Int))) (by kernel_rfl) (by kernel_rfl) ?_
                      clear hF; intro a hF
                      refine L_val hF (by kernel_rfl) (by kernel_rfl) (v := .int .i64 ((i : Int) + 1)) (x_int (x := IntKind.i64.wrap ((i : Int) + 1)) (i64In (by omega) (by omega)) (by kernel_rfl)) (by kernel_rfl) ?_
                      clear hF; intro a hF
                      refine L_val hF (by kernel_rfl) (by kernel_rfl) (v := .int .i64 ((i : Int) + 1)) (by kernel_rfl) (by kernel_rfl) ?_
                      clear hF; intro a hF
                      refine L_nil ?_
                      refine hK_1 (i + 1) _ _ (by first | omega | (dsimp only; omega)) ⟨⟨by omega, all_take_succ s i (by omega) hI.2 (by unfold chOK; omega)⟩, ?_, ?_⟩
                      · exact hF.restrict ⟨(by kernel_rfl), (congrArg some (by first | rfl | exact congrArg (Value.int _) (by omega) | simp)), trivial⟩
                      · exact hO.sub (List.nil_sublist _)
                  ·
                    replace hF := hF.know (d := 49) (v' := .bool false) (by kernel_rfl) (congrArg Value.bool (decide_eq_false q9))
                    refine L_off hF (by kernel_rfl) (by kernel_rfl) ?_
                    clear hF; intro a hF
                    refine L_off hF (by kernel_rfl) (by kernel_rfl) ?_
                    clear hF; intro a hF
                    refine L_val hF (by kernel_rfl) (by kernel_rfl) (v := .bool false) (by kernel_rfl) (by kernel_rfl) ?_
                    clear hF; intro a hF
                    refine L_val hF (by kernel_rfl) (by kernel_rfl) (v := .bool true) (by kernel_rfl) (by kernel_rfl) ?_
                    clear hF; intro a hF
                    refine L_val hF (by kernel_rfl) (by kernel_rfl) (v := .bool true) (by kernel_rfl) (by kernel_rfl) ?_
                    clear hF; intro a hF
                    refine L_nil ?_
                    refine hK14 _ _ ?_
                    refine cond_t hF (by kernel_rfl) (by kernel_rfl) ?_
                    refine wp_seq_k fun K16 hK16 => ?_
                    refine wp_region_lit ?_
                    refine L_val hF (by kernel_rfl) (by kernel_rfl) (v := .bool false) (by kernel_rfl) (by kernel_rfl) ?_
                    clear hF; intro a hF
                    refine L_nil ?_
                    refine hK16 _ _ ?_
                    refine wp_ret ?_
                    refine block_ret ?_
                    refine then_ret ?_
                    refine then_ret ?_
                    refine block_ret ?_
                    refine then_ret ?_
                    -- way 6: ¬ (s.size : Int) < 1; ¬ (s.size : Int) > 15; ¬ bt s 0 = 45; ¬ bt s ((s.size : Int) - 1) = 45; (i : Int) < (s.size : Int); ¬ bt s (i : Int) = 45; bt s (i : Int) ≥ 97; ¬ (bt s (i : Int) ≤ 122); ¬ bt s (i : Int) ≥ 48
                    refine ret1 hF (v := .bool false) rfl (resT (by kernel_rfl)) (by refine ⟨?_, hO.nil⟩; first | exact congrArg Value.bool (labelB_head s (by omega)).symm | exact congrArg Value.bool (labelB_no s i (by omega) (by unfold chOK; omega)).symm | exact congrArg Value.bool (labelB_yes s (by omega) (by have := hI.2; rwa [List.take_of_length_le (by show s.size ≤ i; omega)] at this)).symm) .ret (.inl rfl)
                ·
                  replace hF := hF.know (d := 46) (v' := .bool false) (by kernel_rfl) (congrArg Value.bool (notF (decide_eq_true (Decidable.of_not_not q8))))
                  refine L_off hF (by kernel_rfl) (by kernel_rfl) ?_
                  clear hF; intro a hF
                  refine L_off hF (by kernel_rfl) (by kernel_rfl) ?_
                  clear hF; intro a hF
                  refine L_off hF (by kernel_rfl) (by kernel_rfl) ?_
                  clear hF; intro a hF
                  refine L_off hF (by kernel_rfl) (by kernel_rfl) ?_
                  clear hF; intro a hF
                  refine L_off hF (by kernel_rfl) (by kernel_rfl) ?_
                  clear hF; intro a hF
                  refine L_off hF (by kernel_rfl) (by kernel_rfl) ?_
                  clear hF; intro a hF
                  refine L_off hF (by kernel_rfl) (by kernel_rfl) ?_
                  clear hF; intro a hF
                  refine L_val hF (by kernel_rfl) (by kernel_rfl) (v := .bool false) (by kernel_rfl) (by kernel_rfl) ?_
                  clear hF; intro a hF
                  refine L_nil ?_
                  refine hK14 _ _ ?_
                  refine cond_f hF (by kernel_rfl) (by kernel_rfl) ?_
                  refine wp_skip ?_
                  refine block_normal ?_
                  refine hK12 _ _ ?_
                  refine wp_region_lit ?_
                  refine L_val hF (by kernel_rfl) (by kernel_rfl) (v := .int .i64 ((i : Int))) (by kernel_rfl) (by kernel_rfl) ?_
                  clear hF; intro a hF
                  refine L_val hF (by kernel_rfl) (by kernel_rfl) (v := .int .i64 ((i : Int) + 1)) (x_int (x := IntKind.i64.wrap ((i : Int) + 1)) (i64In (by omega) (by omega)) (by kernel_rfl)) (by kernel_rfl) ?_
                  clear hF; intro a hF
                  refine L_val hF (by kernel_rfl) (by kernel_rfl) (v := .int .i64 ((i : Int) + 1)) (by kernel_rfl) (by kernel_rfl) ?_
                  clear hF; intro a hF
                  refine L_nil ?_
                  refine hK_1 (i + 1) _ _ (by first | omega | (dsimp only; omega)) ⟨⟨by omega, all_take_succ s i (by omega) hI.2 (by unfold chOK; omega)⟩, ?_, ?_⟩
                  · exact hF.restrict ⟨(by kernel_rfl), (congrArg some (by first | rfl | exact congrArg (Value.int _) (by omega) | simp)), trivial⟩
                  · exact hO.sub (List.nil_sublist _)
              ·
                replace hF := hF.know (d := 40) (v' := .bool false) (by kernel_rfl) (congrArg Value.bool (decide_eq_false q7))
                refine L_off hF (by kernel_rfl) (by kernel_rfl) ?_
                clear hF; intro a hF
                refine L_off hF (by kernel_rfl) (by kernel_rfl) ?_
                clear hF; intro a hF
                refine L_val hF (by kernel_rfl) (by kernel_rfl) (v := .bool false) (by kernel_rfl) (by kernel_rfl) ?_
                clear hF; intro a hF
                refine L_val hF (by kernel_rfl) (by kernel_rfl) (v := .bool true) (by kernel_rfl) (by kernel_rfl) ?_
                clear hF; intro a hF
                refine L_val hF (by kernel_rfl) (by kernel_rfl) (v := .bool true) (by kernel_rfl) (by kernel_rfl) ?_
                clear hF; intro a hF
                refine L_val hF (by kernel_rfl) (by kernel_rfl) (v := .bool true) (by kernel_rfl) (by kernel_rfl) ?_
                clear hF; intro a hF
                refine L_val hF (by kernel_rfl) (by kernel_rfl) (v := .int .u8 (bt s (i : Int))) (by kernel_rfl) (by kernel_rfl) ?_
                clear hF; intro a hF
                refine L_val hF (by kernel_rfl) (by kernel_rfl) (v := .bool (decide (bt s (i : Int) ≥ 48))) (by kernel_rfl) (by kernel_rfl) ?_
                clear hF; intro a hF
                refine L_val hF (by kernel_rfl) (by kernel_rfl) (v := .bool (decide (bt s (i : Int) ≥ 48))) (by kernel_rfl) (by kernel_rfl) ?_
                clear hF; intro a hF
                by_cases q11 : bt s (i : Int) ≥ 48
                ·
                  replace hF := hF.know (d := 49) (v' := .bool true) (by kernel_rfl) (congrArg Value.bool (decide_eq_true q11))
                  refine L_val hF (by kernel_rfl) (by kernel_rfl) (v := .int .u8 (bt s (i : Int))) (by kernel_rfl) (by kernel_rfl) ?_
                  clear hF; intro a hF
                  refine L_val hF (by kernel_rfl) (by kernel_rfl) (v := .bool (decide (bt s (i : Int) ≤ 57))) (by kernel_rfl) (by kernel_rfl) ?_
                  clear hF; intro a hF
                  refine L_val hF (by kernel_rfl) (by kernel_rfl) (v := .bool (decide (bt s (i : Int) ≤ 57))) (by kernel_rfl) (by kernel_rfl) ?_
                  clear hF; intro a hF
                  refine L_val hF (by kernel_rfl) (by kernel_rfl) (v := .bool (!(decide (bt s (i : Int) ≤ 57)))) (by kernel_rfl) (by kernel_rfl) ?_
                  clear hF; intro a hF
                  refine L_val hF (by kernel_rfl) (by kernel_rfl) (v := .bool (!(decide (bt s (i : Int) ≤ 57)))) (by kernel_rfl) (by kernel_rfl) ?_
                  clear hF; intro a hF
                  refine L_nil ?_
                  refine hK14 _ _ ?_
                  by_cases q12 : ¬ (bt s (i : Int) ≤ 57)
                  ·
                    replace hF := hF.know (d := 54) (v' := .bool true) (by kernel_rfl) (congrArg Value.bool (notT (decide_eq_false q12)))
                    refine cond_t hF (by kernel_rfl) (by kernel_rfl) ?_
                    refine wp_seq_k fun K17 hK17 => ?_
                    refine wp_region_lit ?_
                    refine L_val hF (by kernel_rfl) (by kernel_rfl) (v := .bool false) (by kernel_rfl) (by kernel_rfl) ?_
                    clear hF; intro a hF
                    refine L_nil ?_
                    refine hK17 _ _ ?_
                    refine wp_ret ?_
                    refine block_ret ?_
                    refine then_ret ?_
                    refine then_ret ?_
                    refine block_ret ?_
                    refine then_ret ?_
                    -- way 7: ¬ (s.size : Int) < 1; ¬ (s.size : Int) > 15; ¬ bt s 0 = 45; ¬ bt s ((s.size : Int) - 1) = 45; (i : Int) < (s.size : Int); ¬ bt s (i : Int) = 45; ¬ bt s (i : Int) ≥ 97; bt s (i : Int) ≥ 48; ¬ (bt s (i : Int) ≤ 57)
                    refine ret1 hF (v := .bool false) rfl (resT (by kernel_rfl)) (by refine ⟨?_, hO.nil⟩; first | exact congrArg Value.bool (labelB_head s (by omega)).symm | exact congrArg Value.bool (labelB_no s i (by omega) (by unfold chOK; omega)).symm | exact congrArg Value.bool (labelB_yes s (by omega) (by have := hI.2; rwa [List.take_of_length_le (by show s.size ≤ i; omega)] at this)).symm) .ret (.inl rfl)
                  ·
                    replace hF := hF.know (d := 54) (v' := .bool false) (by kernel_rfl) (congrArg Value.bool (notF (decide_eq_true (Decidable.of_not_not q12))))
                    refine cond_f hF (by kernel_rfl) (by kernel_rfl) ?_
                    refine wp_skip ?_
                    refine block_normal ?_
                    refine hK12 _ _ ?_
                    refine wp_region_lit ?_
                    refine L_val hF (by kernel_rfl) (by kernel_rfl) (v := .int .i64 ((i : Int))) (by kernel_rfl) (by kernel_rfl) ?_
                    clear hF; intro a hF
                    refine L_val hF (by kernel_rfl) (by kernel_rfl) (v := .int .i64 ((i : Int) + 1)) (x_int (x := IntKind.i64.wrap ((i : Int) + 1)) (i64In (by omega) (by omega)) (by kernel_rfl)) (by kernel_rfl) ?_
                    clear hF; intro a hF
                    refine L_val hF (by kernel_rfl) (by kernel_rfl) (v := .int .i64 ((i : Int) + 1)) (by kernel_rfl) (by kernel_rfl) ?_
                    clear hF; intro a hF
                    refine L_nil ?_
                    refine hK_1 (i + 1) _ _ (by first | omega | (dsimp only; omega)) ⟨⟨by omega, all_take_succ s i (by omega) hI.2 (by unfold chOK; omega)⟩, ?_, ?_⟩
                    · exact hF.restrict ⟨(by kernel_rfl), (congrArg some (by first | rfl | exact congrArg (Value.int _) (by omega) | simp)), trivial⟩
                    · exact hO.sub (List.nil_sublist _)
                ·
                  replace hF := hF.know (d := 49) (v' := .bool false) (by kernel_rfl) (congrArg Value.bool (decide_eq_false q11))
                  refine L_off hF (by kernel_rfl) (by kernel_rfl) ?_
                  clear hF; intro a hF
                  refine L_off hF (by kernel_rfl) (by kernel_rfl) ?_
                  clear hF; intro a hF
                  refine L_val hF (by kernel_rfl) (by kernel_rfl) (v := .bool false) (by kernel_rfl) (by kernel_rfl) ?_
                  clear hF; intro a hF
                  refine L_val hF (by kernel_rfl) (by kernel_rfl) (v := .bool true) (by kernel_rfl) (by kernel_rfl) ?_
                  clear hF; intro a hF
                  refine L_val hF (by kernel_rfl) (by kernel_rfl) (v := .bool true) (by kernel_rfl) (by kernel_rfl) ?_
                  clear hF; intro a hF
                  refine L_nil ?_
                  refine hK14 _ _ ?_
                  refine cond_t hF (by kernel_rfl) (by kernel_rfl) ?_
                  refine wp_seq_k fun K18 hK18 => ?_
                  refine wp_region_lit ?_
                  refine L_val hF (by kernel_rfl) (by kernel_rfl) (v := .bool false) (by kernel_rfl) (by kernel_rfl) ?_
                  clear hF; intro a hF
                  refine L_nil ?_
                  refine hK18 _ _ ?_
                  refine wp_ret ?_
                  refine block_ret ?_
                  refine then_ret ?_
                  refine then_ret ?_
                  refine block_ret ?_
                  refine then_ret ?_
                  -- way 8: ¬ (s.size : Int) < 1; ¬ (s.size : Int) > 15; ¬ bt s 0 = 45; ¬ bt s ((s.size : Int) - 1) = 45; (i : Int) < (s.size : Int); ¬ bt s (i : Int) = 45; ¬ bt s (i : Int) ≥ 97; ¬ bt s (i : Int) ≥ 48
                  refine ret1 hF (v := .bool false) rfl (resT (by kernel_rfl)) (by refine ⟨?_, hO.nil⟩; first | exact congrArg Value.bool (labelB_head s (by omega)).symm | exact congrArg Value.bool (labelB_no s i (by omega) (by unfold chOK; omega)).symm | exact congrArg Value.bool (labelB_yes s (by omega) (by have := hI.2; rwa [List.take_of_length_le (by show s.size ≤ i; omega)] at this)).symm) .ret (.inl rfl)
            ·
              replace hF := hF.know (d := 37) (v' := .bool false) (by kernel_rfl) (congrArg Value.bool (neF q6))
              refine L_off hF (by kernel_rfl) (by kernel_rfl) ?_
              clear hF; intro a hF
              refine L_off hF (by kernel_rfl) (by kernel_rfl) ?_
              clear hF; intro a hF
              refine L_off hF (by kernel_rfl) (by kernel_rfl) ?_
              clear hF; intro a hF
              refine L_off hF (by kernel_rfl) (by kernel_rfl) ?_
              clear hF; intro a hF
              refine L_off hF (by kernel_rfl) (by kernel_rfl) ?_
              clear hF; intro a hF
              refine L_off hF (by kernel_rfl) (by kernel_rfl) ?_
              clear hF; intro a hF
              refine L_off hF (by kernel_rfl) (by kernel_rfl) ?_
              clear hF; intro a hF
              refine L_val hF (by kernel_rfl) (by kernel_rfl) (v := .bool false) (by kernel_rfl) (by kernel_rfl) ?_
              clear hF; intro a hF
              refine L_val hF (by kernel_rfl) (by kernel_rfl) (v := .bool false) (by kernel_rfl) (by kernel_rfl) ?_
              clear hF; intro a hF
              refine L_off hF (by kernel_rfl) (by kernel_rfl) ?_
              clear hF; intro a hF
              refine L_off hF (by kernel_rfl) (by kernel_rfl) ?_
              clear hF; intro a hF
              refine L_off hF (by kernel_rfl) (by kernel_rfl) ?_
              clear hF; intro a hF
              refine L_off hF (by kernel_rfl) (by kernel_rfl) ?_
              clear hF; intro a hF
              refine L_off hF (by kernel_rfl) (by kernel_rfl) ?_
              clear hF; intro a hF
              refine L_off hF (by kernel_rfl) (by kernel_rfl) ?_
              clear hF; intro a hF
              refine L_off hF (by kernel_rfl) (by kernel_rfl) ?_
              clear hF; intro a hF
              refine L_val hF (by kernel_rfl) (by kernel_rfl) (v := .bool false) (by kernel_rfl) (by kernel_rfl) ?_
              clear hF; intro a hF
              refine L_nil ?_
              refine hK14 _ _ ?_
              refine cond_f hF (by kernel_rfl) (by kernel_rfl) ?_
              refine wp_skip ?_
              refine block_normal ?_
              refine hK12 _ _ ?_
              refine wp_region_lit ?_
              refine L_val hF (by kernel_rfl) (by kernel_rfl) (v := .int .i64 ((i : Int))) (by kernel_rfl) (by kernel_rfl) ?_
              clear hF; intro a hF
              refine L_val hF (by kernel_rfl) (by kernel_rfl) (v := .int .i64 ((i : Int) + 1)) (x_int (x := IntKind.i64.wrap ((i : Int) + 1)) (i64In (by omega) (by omega)) (by kernel_rfl)) (by kernel_rfl) ?_
              clear hF; intro a hF
              refine L_val hF (by kernel_rfl) (by kernel_rfl) (v := .int .i64 ((i : Int) + 1)) (by kernel_rfl) (by kernel_rfl) ?_
              clear hF; intro a hF
              refine L_nil ?_
              refine hK_1 (i + 1) _ _ (by first | omega | (dsimp only; omega)) ⟨⟨by omega, all_take_succ s i (by omega) hI.2 (by unfold chOK; omega)⟩, ?_, ?_⟩
              · exact hF.restrict ⟨(by kernel_rfl), (congrArg some (by first | rfl | exact congrArg (Value.int _) (by omega) | simp)), trivial⟩
              · exact hO.sub (List.nil_sublist _)
          ·
            replace hF := hF.know (d := 29) (v' := .bool false) (by kernel_rfl) (congrArg Value.bool (decide_eq_false q5))
            refine cond_f hF (by kernel_rfl) (by kernel_rfl) ?_
            refine wp_exit ?_
            refine then_exit ?_
            refine then_exit ?_
            refine inBlock_hit ?_
            refine hK8 _ _ ?_
            refine wp_seq_k fun K19 hK19 => ?_
            refine wp_region_lit ?_
            refine L_val hF (by kernel_rfl) (by kernel_rfl) (v := .bool true) (by kernel_rfl) (by kernel_rfl) ?_
            clear hF; intro a hF
            refine L_nil ?_
            refine hK19 _ _ ?_
            refine wp_ret ?_
            -- way 9: ¬ (s.size : Int) < 1; ¬ (s.size : Int) > 15; ¬ bt s 0 = 45; ¬ bt s ((s.size : Int) - 1) = 45; ¬ (i : Int) < (s.size : Int)
            refine ret1 hF (v := .bool true) rfl (resT (by kernel_rfl)) (by refine ⟨?_, hO.nil⟩; first | exact congrArg Value.bool (labelB_head s (by omega)).symm | exact congrArg Value.bool (labelB_no s i (by omega) (by unfold chOK; omega)).symm | exact congrArg Value.bool (labelB_yes s (by omega) (by have := hI.2; rwa [List.take_of_length_le (by show s.size ≤ i; omega)] at this)).symm) .ret (.inl rfl)

set_option maxRecDepth 20000 in
theorem ref05_Key (k : Key) (W : World) (h1 : k.space.size ≤ 9223372036854775807) (h2 : k.name.size ≤ 9223372036854775807) : Ret Tryd.prog 11 #[keyV k] W fun v W' => v = .bool (keyB k) ∧ Own W noX [] W' := by
  refine enter Tryd.func11 rfl (n := 11) rfl (by kernel_rfl) (E0 := [(0, keyV k)]) (by kernel_rfl) ?_
  intro a hF; have hO := Own.start W noX
  refine wp_seq_k fun K1 hK1 => ?_
  refine wp_region_lit ?_
  refine L_new hF hO (by kernel_rfl) (by kernel_rfl) (vf := fun b => .pointer (some ⟨b, 0, none⟩)) (ob := .cells #[.string k.space, .string k.name] 23) (by kernel_rfl) (by kernel_rfl) ?_
  clear hF hO; intro b1 W1 a hO hF
  refine L_val hF (by kernel_rfl) (by kernel_rfl) (v := .bool false) (by kernel_rfl) (by kernel_rfl) ?_
  clear hF; intro a hF
  refine L_nil ?_
  refine hK1 _ _ ?_
  refine wp_seq_k fun K2 hK2 => ?_
  refine wp_region_lit ?_
  refine L_val hF (by kernel_rfl) (by kernel_rfl) (v := .pointer (some ⟨b1, 0, none⟩)) (by kernel_rfl) (by kernel_rfl) ?_
  clear hF; intro a hF
  refine L_val hF (by kernel_rfl) (by kernel_rfl) (v := .string k.space) (x_load (p := .pointer (some ⟨b1, 0, none⟩)) rfl (by kernel_rfl) (run_load1 (by kernel_rfl) ((hO.cell List.mem_cons_self).trans (by kernel_rfl)))) (by kernel_rfl) ?_
  clear hF; intro a hF
  refine L_call hF (by kernel_rfl) (by kernel_rfl) (by kernel_rfl) (by kernel_rfl) (ref05_Label k.space W1 (by omega)) ?_
  clear hF; rintro _ W2 a ⟨rfl, hk⟩ hF
  replace hO := hO.call0 hk; clear hk
  refine L_val hF (by kernel_rfl) (by kernel_rfl) (v := .bool (labelB k.space)) (by kernel_rfl) (by kernel_rfl) ?_
  clear hF; intro a hF
  cases q1 : (labelB k.space : Bool)
  ·
    replace hF := hF.know (d := 6) (v' := .bool false) (by kernel_rfl) (congrArg Value.bool q1)
    refine L_off hF (by kernel_rfl) (by kernel_rfl) ?_
    clear hF; intro a hF
    refine L_off hF (by kernel_rfl) (by kernel_rfl) ?_
    clear hF; intro a hF
    refine L_off hF (by kernel_rfl) (by kernel_rfl) ?_
    clear hF; intro a hF
    refine L_val hF (by kernel_rfl) (by kernel_rfl) (v := .bool false) (by kernel_rfl) (by kernel_rfl) ?_
    clear hF; intro a hF
    refine L_val hF (by kernel_rfl) (by kernel_rfl) (v := .bool false) (by kernel_rfl) (by kernel_rfl) ?_
    clear hF; intro a hF
    refine L_nil ?_
    refine hK2 _ _ ?_
    refine wp_ret ?_
    -- way 1: ¬ labelB k.space
    refine ret1 hF (v := .bool false) rfl (resT (by kernel_rfl)) (by refine ⟨?_, hO.nil⟩; unfold keyB; simp [*]) .ret (.inl rfl)
  ·
    replace hF := hF.know (d := 6) (v' := .bool true) (by kernel_rfl) (congrArg Value.bool q1)
    refine L_val hF (by kernel_rfl) (by kernel_rfl) (v := .pointer (some ⟨b1, 1, none⟩)) (by kernel_rfl) (by kernel_rfl) ?_
    clear hF; intro a hF
    refine L_val hF (by kernel_rfl) (by kernel_rfl) (v := .string k.name) (x_load (p := .pointer (some ⟨b1, 1, none⟩)) rfl (by kernel_rfl) (run_load1 (by kernel_rfl) ((hO.cell List.mem_cons_self).trans (by kernel_rfl)))) (by kernel_rfl) ?_
    clear hF; intro a hF
    refine L_call hF (by kernel_rfl) (by kernel_rfl) (by kernel_rfl) (by kernel_rfl) (ref05_Label k.name W2 (by omega)) ?_
    clear hF; rintro _ W3 a ⟨rfl, hk⟩ hF
    replace hO := hO.call0 hk; clear hk
    refine L_val hF (by kernel_rfl) (by kernel_rfl) (v := .bool (labelB k.name)) (by kernel_rfl) (by kernel_rfl) ?_
    clear hF; intro a hF
    refine L_val hF (by kernel_rfl) (by kernel_rfl) (v := .bool (labelB k.name)) (by kernel_rfl) (by kernel_rfl) ?_
    clear hF; intro a hF
    refine L_nil ?_
    refine hK2 _ _ ?_
    refine wp_ret ?_
    -- way 2: labelB k.space
    refine ret1 hF (v := .bool (labelB k.name)) rfl (resT (by kernel_rfl)) (by refine ⟨?_, hO.nil⟩; unfold keyB; simp [*]) .ret (.inl rfl)

set_option maxRecDepth 20000 in
theorem names_Format (k : Key) (W : World) (h1 : k.space.size ≤ 1000000) (h2 : k.name.size ≤ 1000000) : Ret Tryd.prog 13 #[keyV k] W fun v W' => v = .string (fmtKey k) ∧ Own W noX [] W' := by
  refine enter Tryd.func13 rfl (n := 12) rfl (by kernel_rfl) (E0 := [(0, keyV k)]) (by kernel_rfl) ?_
  intro a hF; have hO := Own.start W noX
  refine wp_seq_k fun K1 hK1 => ?_
  refine wp_region_lit ?_
  refine L_new hF hO (by kernel_rfl) (by kernel_rfl) (vf := fun b => .pointer (some ⟨b, 0, none⟩)) (ob := .cells #[.string k.space, .string k.name] 23) (by kernel_rfl) (by kernel_rfl) ?_
  clear hF hO; intro b1 W1 a hO hF
  refine L_val hF (by kernel_rfl) (by kernel_rfl) (v := .string (⟨#[]⟩ : ByteArray)) (by kernel_rfl) (by kernel_rfl) ?_
  clear hF; intro a hF
  refine L_nil ?_
  refine hK1 _ _ ?_
  refine wp_seq_k fun K2 hK2 => ?_
  refine wp_seq_k fun K3 hK3 => ?_
  refine wp_region_lit ?_
  refine L_val hF (by kernel_rfl) (by kernel_rfl) (v := .agg #[.string k.space, .string k.name]) (x_load (p := .pointer (some ⟨b1, 0, none⟩)) rfl (by kernel_rfl) (run_loadA (k := 2) (by kernel_rfl) (by kernel_rfl) (hO.blk List.mem_cons_self) (by kernel_rfl) (by kernel_rfl))) (by kernel_rfl) ?_
  clear hF; intro a hF
  refine L_call hF (by kernel_rfl) (by kernel_rfl) (by kernel_rfl) (by kernel_rfl) (names_Key k W1 (by omega) (by omega)) ?_
  clear hF; rintro _ W2 a ⟨rfl, hk⟩ hF
  replace hO := hO.call0 hk; clear hk
  refine L_val hF (by kernel_rfl) (by kernel_rfl) (v := .bool (!(keyB k))) (by kernel_rfl) (by kernel_rfl) ?_
  clear hF; intro a hF
  refine L_nil ?_
  refine hK3 _ _ ?_
  cases q1 : (keyB k : Bool)
  ·
    replace hF := hF.know (d := 5) (v' := .bool true) (by kernel_rfl) (congrArg Value.bool (notT q1))
    refine cond_t hF (by kernel_rfl) (by kernel_rfl) ?_
    refine wp_seq_k fun K4 hK4 => ?_
    refine wp_region_lit ?_
    refine L_val hF (by kernel_rfl) (by kernel_rfl) (v := .string (⟨#[]⟩ : ByteArray)) (by kernel_rfl) (by kernel_rfl) ?_
    clear hF; intro a hF
    refine L_nil ?_
    refine hK4 _ _ ?_
    refine wp_ret ?_
    refine then_ret ?_
    -- way 1: ¬ keyB k
    refine ret1 hF (v := .string (⟨#[]⟩ : ByteArray)) rfl (resT (by kernel_rfl)) (by refine ⟨?_, hO.nil⟩; unfold fmtKey; first | rw [if_pos ‹_›] | (rw [if_neg (by simp [*])])) .ret (.inl rfl)
  ·
    replace hF := hF.know (d := 5) (v' := .bool false) (by kernel_rfl) (congrArg Value.bool (notF q1))
    refine cond_f hF (by kernel_rfl) (by kernel_rfl) ?_
    refine wp_skip ?_
    refine hK2 _ _ ?_
    refine wp_seq_k fun K5 hK5 => ?_
    refine wp_region_lit ?_
    refine L_val hF (by kernel_rfl) (by kernel_rfl) (v := .pointer (some ⟨b1, 0, none⟩)) (by kernel_rfl) (by kernel_rfl) ?_
    clear hF; intro a hF
    refine L_val hF (by kernel_rfl) (by kernel_rfl) (v := .string k.space) (x_load (p := .pointer (some ⟨b1, 0, none⟩)) rfl (by kernel_rfl) (run_load1 (by kernel_rfl) ((hO.cell List.mem_cons_self).trans (by kernel_rfl)))) (by kernel_rfl) ?_
    clear hF; intro a hF
    refine L_val hF (by kernel_rfl) (by kernel_rfl) (v := .string (k.space ++ (⟨#[47]⟩ : ByteArray))) (x_cat (s := k.space) (t := (⟨#[47]⟩ : ByteArray)) rfl (by kernel_rfl) (by kernel_rfl) (by (simp only [ByteArray.size_append, sz, List.length_cons, List.length_nil]; omega))) (by kernel_rfl) ?_
    clear hF; intro a hF
    refine L_val hF (by kernel_rfl) (by kernel_rfl) (v := .pointer (some ⟨b1, 1, none⟩)) (by kernel_rfl) (by kernel_rfl) ?_
    clear hF; intro a hF
    refine L_val hF (by kernel_rfl) (by kernel_rfl) (v := .string k.name) (x_load (p := .pointer (some ⟨b1, 1, none⟩)) rfl (by kernel_rfl) (run_load1 (by kernel_rfl) ((hO.cell List.mem_cons_self).trans (by kernel_rfl)))) (by kernel_rfl) ?_
    clear hF; intro a hF
    refine L_val hF (by kernel_rfl) (by kernel_rfl) (v := .string ((k.space ++ (⟨#[47]⟩ : ByteArray)) ++ k.name)) (x_cat (s := k.space ++ (⟨#[47]⟩ : ByteArray)) (t := k.name) rfl (by kernel_rfl) (by kernel_rfl) (by (simp only [ByteArray.size_append, sz, List.length_cons, List.length_nil]; omega))) (by kernel_rfl) ?_
    clear hF; intro a hF
    refine L_val hF (by kernel_rfl) (by kernel_rfl) (v := .string ((k.space ++ (⟨#[47]⟩ : ByteArray)) ++ k.name)) (by kernel_rfl) (by kernel_rfl) ?_
    clear hF; intro a hF
    refine L_nil ?_
    refine hK5 _ _ ?_
    refine wp_ret ?_
    -- way 2: keyB k
    refine ret1 hF (v := .string ((k.space ++ (⟨#[47]⟩ : ByteArray)) ++ k.name)) rfl (resT (by kernel_rfl)) (by refine ⟨?_, hO.nil⟩; unfold fmtKey; first | rw [if_pos ‹_›] | (rw [if_neg (by simp [*])])) .ret (.inl rfl)

set_option maxRecDepth 20000 in
theorem names_Parse (I : List Nat) (ea : Nat → Addr) (m : Int) (s : ByteArray) (W : World) (hs : s.size ≤ 1000000) (hM : W.cell? ⟨18, 0, none⟩ = some (.int .i64 m)) (hE : Errs I ea W) (h5 : I.contains 5 = true) : Ret Tryd.prog 6 #[.string s] W fun v W' => v = retKey ea (parseKey s) ∧ Own W noX [] W' := by
  refine enter Tryd.func6 rfl (n := 23) rfl (by kernel_rfl) (E0 := [(0, .string s)]) (by kernel_rfl) ?_
  intro a hF; have hO := Own.start W noX
  refine wp_seq_k fun K1 hK1 => ?_
  refine wp_region_lit ?_
  refine L_new hF hO (by kernel_rfl) (by kernel_rfl) (vf := fun b => .pointer (some ⟨b, 0, none⟩)) (ob := .cells #[.string (⟨#[]⟩ : ByteArray), .string (⟨#[]⟩ : ByteArray)] 23) (by kernel_rfl) (by kernel_rfl) ?_
  clear hF hO; intro b1 W1 a hO hF
  refine L_val hF (by kernel_rfl) (by kernel_rfl) (v := .nilIface) (by kernel_rfl) (by kernel_rfl) ?_
  clear hF; intro a hF
  refine L_nil ?_
  refine hK1 _ _ ?_
  refine wp_seq_k fun K2 hK2 => ?_
  refine wp_region_lit ?_
  refine L_val hF (by kernel_rfl) (by kernel_rfl) (v := .string s) (by kernel_rfl) (by kernel_rfl) ?_
  clear hF; intro a hF
  refine L_call hF (by kernel_rfl) (by kernel_rfl) (by kernel_rfl) (by kernel_rfl) (cut_ret s W1 m (by omega) (hO.oldCell (lt_of_cell hM) (fun h => h) hM)) ?_
  clear hF; rintro _ W2 a ⟨rfl, hk⟩ hF
  replace hO := hO.call0 hk; clear hk
  refine L_val hF (by kernel_rfl) (by kernel_rfl) (v := .tuple #[.string ⟨(Lib.cut s.data.toList [47]).1.toArray⟩, .string ⟨(Lib.cut s.data.toList [47]).2.1.toArray⟩, .bool ((Lib.cut s.data.toList [47]).2.2)]) (by kernel_rfl) (by kernel_rfl) ?_
  clear hF; intro a hF
  refine L_val hF (by kernel_rfl) (by kernel_rfl) (v := .string ⟨(Lib.cut s.data.toList [47]).1.toArray⟩) (by kernel_rfl) (by kernel_rfl) ?_
  clear hF; intro a hF
  refine L_val hF (by kernel_rfl) (by kernel_rfl) (v := .string ⟨(Lib.cut s.data.toList [47]).2.1.toArray⟩) (by kernel_rfl) (by kernel_rfl) ?_
  clear hF; intro a hF
  refine L_val hF (by kernel_rfl) (by kernel_rfl) (v := .bool ((Lib.cut s.data.toList [47]).2.2)) (by kernel_rfl) (by kernel_rfl) ?_
  clear hF; intro a hF
  refine L_val hF (by kernel_rfl) (by kernel_rfl) (v := .string ⟨(Lib.cut s.data.toList [47]).1.toArray⟩) (by kernel_rfl) (by kernel_rfl) ?_
  clear hF; intro a hF
  refine L_val hF (by kernel_rfl) (by kernel_rfl) (v := .string ⟨(Lib.cut s.data.toList [47]).2.1.toArray⟩) (by kernel_rfl) (by kernel_rfl) ?_
  clear hF; intro a hF
  refine L_val hF (by kernel_rfl) (by kernel_rfl) (v := .bool ((Lib.cut s.data.toList [47]).2.2)) (by kernel_rfl) (by kernel_rfl) ?_
  clear hF; intro a hF
  refine L_nil ?_
  refine hK2 _ _ ?_
  refine wp_seq_k fun K3 hK3 => ?_
  refine wp_region_lit ?_
  refine L_val hF (by kernel_rfl) (by kernel_rfl) (v := .string ⟨(Lib.cut s.data.toList [47]).1.toArray⟩) (by kernel_rfl) (by kernel_rfl) ?_
  clear hF; intro a hF
  refine L_val hF (by kernel_rfl) (by kernel_rfl) (v := .string ⟨(Lib.cut s.data.toList [47]).2.1.toArray⟩) (by kernel_rfl) (by kernel_rfl) ?_
  clear hF; intro a hF
  refine L_val hF (by kernel_rfl) (by kernel_rfl) (v := .agg #[.string ⟨(Lib.cut s.data.toList [47]).1.toArray⟩, .string ⟨(Lib.cut s.data.toList [47]).2.1.toArray⟩]) (by kernel_rfl) (by kernel_rfl) ?_
  clear hF; intro a hF
  refine L_new hF hO (by kernel_rfl) (by kernel_rfl) (vf := fun b => .pointer (some ⟨b, 0, none⟩)) (ob := .cells #[.string (⟨#[]⟩ : ByteArray), .string (⟨#[]⟩ : ByteArray)] 23) (by kernel_rfl) (by kernel_rfl) ?_
  clear hF hO; intro b2 W3 a hO hF
  obtain ⟨W4, hst, hO1⟩ := run_storeAt (P := Tryd.prog) (k := 2) (T := 23) (off := 0) (v := .agg #[.string ⟨(Lib.cut s.data.toList [47]).1.toArray⟩, .string ⟨(Lib.cut s.data.toList [47]).2.1.toArray⟩]) (cs := #[.string (⟨#[]⟩ : ByteArray), .string (⟨#[]⟩ : ByteArray)]) (cs' := #[.string ⟨(Lib.cut s.data.toList [47]).1.toArray⟩, .string ⟨(Lib.cut s.data.toList [47]).2.1.toArray⟩]) hO (by kernel_rfl) (by kernel_rfl) (by kernel_rfl) (Nat.le_of_ble_eq_true (by kernel_rfl)) (by kernel_rfl) (.head _)
  refine L_skip hF (by kernel_rfl) (by kernel_rfl) (x_store (p := .pointer (some ⟨b2, 0, none⟩)) (v := .agg #[.string ⟨(Lib.cut s.data.toList [47]).1.toArray⟩, .string ⟨(Lib.cut s.data.toList [47]).2.1.toArray⟩]) rfl (by kernel_rfl) (by kernel_rfl) hst) (by kernel_rfl) ?_
  clear hst hF; intro a hF; replace hO := hO1; clear hO1
  refine L_nil ?_
  refine hK3 _ _ ?_
  refine wp_seq_k fun K4 hK4 => ?_
  refine wp_seq_k fun K5 hK5 => ?_
  refine wp_region_lit ?_
  refine L_val hF (by kernel_rfl) (by kernel_rfl) (v := .agg #[.string ⟨(Lib.cut s.data.toList [47]).1.toArray⟩, .string ⟨(Lib.cut s.data.toList [47]).2.1.toArray⟩]) (x_load (p := .pointer (some ⟨b2, 0, none⟩)) rfl (by kernel_rfl) (run_loadA (k := 2) (by kernel_rfl) (by kernel_rfl) (hO.blk List.mem_cons_self) (by kernel_rfl) (by kernel_rfl))) (by kernel_rfl) ?_
  clear hF; intro a hF
  refine L_call hF (by kernel_rfl) (by kernel_rfl) (by kernel_rfl) (by kernel_rfl) (names_Key (cutKey s) W4 (by have := cut_size s; omega) (by have := cut_size s; omega)) ?_
  clear hF; rintro _ W5 a ⟨rfl, hk⟩ hF
  replace hO := hO.call0 hk; clear hk
  refine L_val hF (by kernel_rfl) (by kernel_rfl) (v := .bool (!(keyB (cutKey s)))) (by kernel_rfl) (by kernel_rfl) ?_
  clear hF; intro a hF
  refine L_nil ?_
  refine hK5 _ _ ?_
  cases q1 : (keyB (cutKey s) : Bool)
  ·
    replace hF := hF.know (d := 19) (v' := .bool true) (by kernel_rfl) (congrArg Value.bool (notT q1))
    refine cond_t hF (by kernel_rfl) (by kernel_rfl) ?_
    refine wp_seq_k fun K6 hK6 => ?_
    refine A_start (fun Wx => Own W noX [.blk b2 (.cells #[.string ⟨(Lib.cut s.data.toList [47]).1.toArray⟩, .string ⟨(Lib.cut s.data.toList [47]).2.1.toArray⟩] 23 (0, 0))] Wx) (by kernel_rfl) ?_
    replace hO := hO.drewN 1
    generalize hWd : ({ W5 with drawn := W5.drawn + 1 } : World) = W5_d at hO ⊢; clear hWd
    refine A_take (i := 0) (listed' := #[true, false, false, false]) rfl (by kernel_rfl) (by kernel_rfl) (by kernel_rfl) (by kernel_rfl) hF (by kernel_rfl) (by kernel_rfl) (v := .agg #[.string (⟨#[]⟩ : ByteArray), .string (⟨#[]⟩ : ByteArray)]) (fun Wx _ => by kernel_rfl) (by kernel_rfl) (hO.sub (.cons_cons _ (List.nil_sublist _))) ?_
    clear hF; intro a hF
    refine A_take (i := 1) (listed' := #[true, true, false, false]) rfl (by kernel_rfl) (by kernel_rfl) (by kernel_rfl) (by kernel_rfl) hF (by kernel_rfl) (by kernel_rfl) (v := errV ea 5) (fun Wx hO => x_load (p := .pointer (some ⟨0, 0, none⟩)) rfl (by kernel_rfl) (hE.load hO 5 0 h5 (by kernel_rfl))) (by kernel_rfl) (hO.sub (.cons_cons _ (List.nil_sublist _))) ?_
    clear hF; intro a hF
    refine A_one (i := 2) (listed' := #[true, true, true, false]) (by kernel_rfl) rfl (by kernel_rfl) ?_
    obtain ⟨W6, hst, hO1⟩ := run_storeAt (P := Tryd.prog) (k := 2) (T := 23) (off := 0) (v := .agg #[.string (⟨#[]⟩ : ByteArray), .string (⟨#[]⟩ : ByteArray)]) (cs := #[.string (⟨#[]⟩ : ByteArray), .string (⟨#[]⟩ : ByteArray)]) (cs' := #[.string (⟨#[]⟩ : ByteArray), .string (⟨#[]⟩ : ByteArray)]) hO (by kernel_rfl) (by kernel_rfl) (by kernel_rfl) (Nat.le_of_ble_eq_true (by kernel_rfl)) (by kernel_rfl) (.tail (.head _))
    refine OpK.skip hF (by kernel_rfl) (by kernel_rfl) (x_store (p := .pointer (some ⟨b1, 0, none⟩)) (v := .agg #[.string (⟨#[]⟩ : ByteArray), .string (⟨#[]⟩ : ByteArray)]) rfl (by kernel_rfl) (by kernel_rfl) hst) (by kernel_rfl) ?_
    clear hst hF; intro a hF; replace hO := hO1; clear hO1
    refine ⟨hO.sub (.cons_cons _ (List.nil_sublist _)), ?_⟩
    refine A_take (i := 3) (listed' := #[true, true, true, true]) rfl (by kernel_rfl) (by kernel_rfl) (by kernel_rfl) (by kernel_rfl) hF (by kernel_rfl) (by kernel_rfl) (v := errV ea 5) (fun Wx _ => by kernel_rfl) (by kernel_rfl) (hO.sub (.cons_cons _ (List.nil_sublist _))) ?_
    clear hF; intro a hF
    refine A_done (by kernel_rfl) ?_
    refine hK6 _ _ ?_
    refine wp_ret ?_
    refine then_ret ?_
    -- way 1: ¬ keyB (cutKey s)
    refine ret2 hF (v := .agg #[.string (⟨#[]⟩ : ByteArray), .string (⟨#[]⟩ : ByteArray)]) (u := errV ea 5) rfl (resC (ad := ⟨b1, 0, none⟩) (by kernel_rfl) (run_loadA (k := 2) (by kernel_rfl) (by kernel_rfl) (hO.blk (List.mem_cons_of_mem _ List.mem_cons_self)) (by kernel_rfl) (by kernel_rfl))) (resT (by kernel_rfl)) (by refine ⟨?_, hO.nil⟩; unfold parseKey; first | (rw [if_pos ‹_›]; rfl) | (rw [if_neg (by simp [*])]; rfl)) .ret (.inl rfl)
  ·
    replace hF := hF.know (d := 19) (v' := .bool false) (by kernel_rfl) (congrArg Value.bool (notF q1))
    refine cond_f hF (by kernel_rfl) (by kernel_rfl) ?_
    refine wp_skip ?_
    refine hK4 _ _ ?_
    refine wp_seq_k fun K7 hK7 => ?_
    refine wp_region_lit ?_
    refine L_val hF (by kernel_rfl) (by kernel_rfl) (v := .agg #[.string ⟨(Lib.cut s.data.toList [47]).1.toArray⟩, .string ⟨(Lib.cut s.data.toList [47]).2.1.toArray⟩]) (x_load (p := .pointer (some ⟨b2, 0, none⟩)) rfl (by kernel_rfl) (run_loadA (k := 2) (by kernel_rfl) (by kernel_rfl) (hO.blk List.mem_cons_self) (by kernel_rfl) (by kernel_rfl))) (by kernel_rfl) ?_
    clear hF; intro a hF
    obtain ⟨W7, hst, hO1⟩ := run_storeAt (P := Tryd.prog) (k := 2) (T := 23) (off := 0) (v := .agg #[.string ⟨(Lib.cut s.data.toList [47]).1.toArray⟩, .string ⟨(Lib.cut s.data.toList [47]).2.1.toArray⟩]) (cs := #[.string (⟨#[]⟩ : ByteArray), .string (⟨#[]⟩ : ByteArray)]) (cs' := #[.string ⟨(Lib.cut s.data.toList [47]).1.toArray⟩, .string ⟨(Lib.cut s.data.toList [47]).2.1.toArray⟩]) hO (by kernel_rfl) (by kernel_rfl) (by kernel_rfl) (Nat.le_of_ble_eq_true (by kernel_rfl)) (by kernel_rfl) (.tail (.head _))
    refine L_skip hF (by kernel_rfl) (by kernel_rfl) (x_store (p := .pointer (some ⟨b1, 0, none⟩)) (v := .agg #[.string ⟨(Lib.cut s.data.toList [47]).1.toArray⟩, .string ⟨(Lib.cut s.data.toList [47]).2.1.toArray⟩]) rfl (by kernel_rfl) (by kernel_rfl) hst) (by kernel_rfl) ?_
    clear hst hF; intro a hF; replace hO := hO1; clear hO1
    refine L_val hF (by kernel_rfl) (by kernel_rfl) (v := .nilIface) (by kernel_rfl) (by kernel_rfl) ?_
    clear hF; intro a hF
    refine L_nil ?_
    refine hK7 _ _ ?_
    refine wp_ret ?_
    -- way 2: keyB (cutKey s)
    refine ret2 hF (v := .agg #[.string ⟨(Lib.cut s.data.toList [47]).1.toArray⟩, .string ⟨(Lib.cut s.data.toList [47]).2.1.toArray⟩]) (u := .nilIface) rfl (resC (ad := ⟨b1, 0, none⟩) (by kernel_rfl) (run_loadA (k := 2) (by kernel_rfl) (by kernel_rfl) (hO.blk (List.mem_cons_of_mem _ List.mem_cons_self)) (by kernel_rfl) (by kernel_rfl))) (resT (by kernel_rfl)) (by refine ⟨?_, hO.nil⟩; unfold parseKey; first | (rw [if_pos ‹_›]; rfl) | (rw [if_neg (by simp [*])]; rfl)) .ret (.inl rfl)

set_option maxRecDepth 20000 in
theorem ref05_Parse (s : ByteArray) (W : World) (hs : s.size ≤ 1000000) : Ret Tryd.prog 7 #[.string s] W fun v W' => v = retKeyB (parseKey s) ∧ Own W noX [] W' := by
  refine enter Tryd.func7 rfl (n := 29) rfl (by kernel_rfl) (E0 := [(0, .string s)]) (by kernel_rfl) ?_
  intro a hF; have hO := Own.start W noX
  refine wp_seq_k fun K1 hK1 => ?_
  refine wp_region_lit ?_
  refine L_new hF hO (by kernel_rfl) (by kernel_rfl) (vf := fun b => .pointer (some ⟨b, 0, none⟩)) (ob := .cells #[.string (⟨#[]⟩ : ByteArray), .string (⟨#[]⟩ : ByteArray)] 23) (by kernel_rfl) (by kernel_rfl) ?_
  clear hF hO; intro b1 W1 a hO hF
  refine L_val hF (by kernel_rfl) (by kernel_rfl) (v := .bool false) (by kernel_rfl) (by kernel_rfl) ?_
  clear hF; intro a hF
  refine L_nil ?_
  refine hK1 _ _ ?_
  refine wp_seq_k fun K2 hK2 => ?_
  refine wp_seq_k fun K3 hK3 => ?_
  refine wp_region_lit ?_
  refine L_val hF (by kernel_rfl) (by kernel_rfl) (v := .int .i64 0) (by kernel_rfl) (by kernel_rfl) ?_
  clear hF; intro a hF
  refine L_nil ?_
  refine hK3 _ _ ?_
  refine wp_block ?_
  refine loopX (τ := Nat) (fun (i : Nat) a Wx => (i ≤ s.size ∧ (47 : UInt8) ∉ s.data.toList.take i) ∧ Fr 29 a [(0, .string s), (2, .pointer (some ⟨b1, 0, none⟩)), (4, .int .i64 ((i : Int)))] ∧ Own W noX [.blk b1 (.cells #[.string (⟨#[]⟩ : ByteArray), .string (⟨#[]⟩ : ByteArray)] 23 (0, 0))] Wx) (fun (i : Nat) => s.size - i) (0) ⟨⟨Nat.zero_le _, by simp⟩, ?_, ?_⟩ ?_
  · exact hF.restrict ⟨(by kernel_rfl), (by kernel_rfl), (congrArg some (by first | rfl | exact congrArg (Value.int _) (by omega) | simp)), trivial⟩
  · exact hO.sub (.cons_cons _ (List.nil_sublist _))
  clear hF hO; rintro i a Wl1 ⟨hI, hF, hO⟩ KhK_1 hK_1
  try dsimp only at hI
  refine wp_seq_k fun K4 hK4 => ?_
  refine wp_seq_k fun K5 hK5 => ?_
  refine wp_region_lit ?_
  refine L_val hF (by kernel_rfl) (by kernel_rfl) (v := .int .i64 ((i : Int))) (by kernel_rfl) (by kernel_rfl) ?_
  clear hF; intro a hF
  refine L_val hF (by kernel_rfl) (by kernel_rfl) (v := .string s) (by kernel_rfl) (by kernel_rfl) ?_
  clear hF; intro a hF
  refine L_val hF (by kernel_rfl) (by kernel_rfl) (v := .int .i64 ((s.size : Int))) (by kernel_rfl) (by kernel_rfl) ?_
  clear hF; intro a hF
  refine L_val hF (by kernel_rfl) (by kernel_rfl) (v := .bool (decide ((i : Int) < (s.size : Int)))) (by kernel_rfl) (by kernel_rfl) ?_
  clear hF; intro a hF
  refine L_nil ?_
  refine hK5 _ _ ?_
  by_cases q1 : (i : Int) < (s.size : Int)
  ·
    replace hF := hF.know (d := 9) (v' := .bool true) (by kernel_rfl) (congrArg Value.bool (decide_eq_true q1))
    refine cond_t hF (by kernel_rfl) (by kernel_rfl) ?_
    refine wp_skip ?_
    refine hK4 _ _ ?_
    refine wp_seq_k fun K6 hK6 => ?_
    refine wp_block ?_
    refine wp_seq_k fun K7 hK7 => ?_
    refine wp_region_lit ?_
    refine L_val hF (by kernel_rfl) (by kernel_rfl) (v := .string s) (by kernel_rfl) (by kernel_rfl) ?_
    clear hF; intro a hF
    refine L_val hF (by kernel_rfl) (by kernel_rfl) (v := .int .i64 ((i : Int))) (by kernel_rfl) (by kernel_rfl) ?_
    clear hF; intro a hF
    refine L_val hF (by kernel_rfl) (by kernel_rfl) (v := .int .u8 (bt s (i : Int))) (x_idxStr (s := s) (k := .i64) (i := (i : Int)) rfl (by kernel_rfl) (by kernel_rfl) (by kernel_rfl) (by omega) (by omega)) (by kernel_rfl) ?_
    clear hF; intro a hF
    refine L_val hF (by kernel_rfl) (by kernel_rfl) (v := .bool ((bt s (i : Int)) == 47)) (by kernel_rfl) (by kernel_rfl) ?_
    clear hF; intro a hF
    refine L_nil ?_
    refine hK7 _ _ ?_
    by_cases q2 : bt s (i : Int) = 47
    ·
      replace hF := hF.know (d := 15) (v' := .bool true) (by kernel_rfl) (congrArg Value.bool (eqT q2))
      refine cond_t hF (by kernel_rfl) (by kernel_rfl) ?_
      refine wp_seq_k fun K8 hK8 => ?_
      refine A_start (fun Wx => Own W noX [.blk b1 (.cells #[.string (⟨#[]⟩ : ByteArray), .string (⟨#[]⟩ : ByteArray)] 23 (0, 0))] Wx) (by kernel_rfl) ?_
      replace hO := hO.drewN 1
      generalize hWd : ({ Wl1 with drawn := Wl1.drawn + 1 } : World) = Wl1_d at hO ⊢; clear hWd
      refine A_take (i := 0) (listed' := #[true, false, false, false, false, false, false, false, false, false]) rfl (by kernel_rfl) (by kernel_rfl) (by kernel_rfl) (by kernel_rfl) hF (by kernel_rfl) (by kernel_rfl) (v := .string s) (fun Wx _ => by kernel_rfl) (by kernel_rfl) (hO.sub (.cons_cons _ (List.nil_sublist _))) ?_
      clear hF; intro a hF
      refine A_take (i := 1) (listed' := #[true, true, false, false, false, false, false, false, false, false]) rfl (by kernel_rfl) (by kernel_rfl) (by kernel_rfl) (by kernel_rfl) hF (by kernel_rfl) (by kernel_rfl) (v := .int .i64 ((i : Int))) (fun Wx _ => by kernel_rfl) (by kernel_rfl) (hO.sub (.cons_cons _ (List.nil_sublist _))) ?_
      clear hF; intro a hF
      refine A_take (i := 2) (listed' := #[true, true, true, false, false, false, false, false, false, false]) rfl (by kernel_rfl) (by kernel_rfl) (by kernel_rfl) (by kernel_rfl) hF (by kernel_rfl) (by kernel_rfl) (v := .string (s.extract 0 ((i : Int).toNat))) (fun Wx _ => (x_slStrH (s := s) (k' := .i64) (j := (i : Int)) rfl (by kernel_rfl) (by kernel_rfl) (by kernel_rfl) (by omega) (by omega))) (by kernel_rfl) (hO.sub (.cons_cons _ (List.nil_sublist _))) ?_
      clear hF; intro a hF
      refine A_take (i := 3) (listed' := #[true, true, true, true, false, false, false, false, false, false]) rfl (by kernel_rfl) (by kernel_rfl) (by kernel_rfl) (by kernel_rfl) hF (by kernel_rfl) (by kernel_rfl) (v := .string s) (fun Wx _ => by kernel_rfl) (by kernel_rfl) (hO.sub (.cons_cons _ (List.nil_sublist _))) ?_
      clear hF; intro a hF
      refine A_take (i := 4) (listed' := #[true, true, true, true, true, false, false, false, false, false]) rfl (by kernel_rfl) (by kernel_rfl) (by kernel_rfl) (by kernel_rfl) hF (by kernel_rfl) (by kernel_rfl) (v := .int .i64 ((i : Int))) (fun Wx _ => by kernel_rfl) (by kernel_rfl) (hO.sub (.cons_cons _ (List.nil_sublist _))) ?_
      clear hF; intro a hF
      refine A_take (i := 5) (listed' := #[true, true, true, true, true, true, false, false, false, false]) rfl (by kernel_rfl) (by kernel_rfl) (by kernel_rfl) (by kernel_rfl) hF (by kernel_rfl) (by kernel_rfl) (v := .int .i64 ((i : Int) + 1)) (fun Wx _ => (x_int (x := IntKind.i64.wrap ((i : Int) + 1)) (i64In (by omega) (by omega)) (by kernel_rfl))) (by kernel_rfl) (hO.sub (.cons_cons _ (List.nil_sublist _))) ?_
      clear hF; intro a hF
      refine A_take (i := 6) (listed' := #[true, true, true, true, true, true, true, false, false, false]) rfl (by kernel_rfl) (by kernel_rfl) (by kernel_rfl) (by kernel_rfl) hF (by kernel_rfl) (by kernel_rfl) (v := .string (s.extract (((i : Int) + 1).toNat) s.size)) (fun Wx _ => (x_slStrL (s := s) (k := .i64) (i := (i : Int) + 1) rfl (by kernel_rfl) (by kernel_rfl) (by kernel_rfl) (by omega) (by omega))) (by kernel_rfl) (hO.sub (.cons_cons _ (List.nil_sublist _))) ?_
      clear hF; intro a hF
      refine A_take (i := 7) (listed' := #[true, true, true, true, true, true, true, true, false, false]) rfl (by kernel_rfl) (by kernel_rfl) (by kernel_rfl) (by kernel_rfl) hF (by kernel_rfl) (by kernel_rfl) (v := .agg #[.string (s.extract 0 ((i : Int).toNat)), .string (s.extract (((i : Int) + 1).toNat) s.size)]) (fun Wx _ => by kernel_rfl) (by kernel_rfl) (hO.sub (.cons_cons _ (List.nil_sublist _))) ?_
      clear hF; intro a hF
      refine A_one (i := 8) (listed' := #[true, true, true, true, true, true, true, true, true, false]) (by kernel_rfl) rfl (by kernel_rfl) ?_
      refine OpK.new hF hO (by kernel_rfl) (by kernel_rfl) (vf := fun b => .pointer (some ⟨b, 0, none⟩)) (ob := .cells #[.string (⟨#[]⟩ : ByteArray), .string (⟨#[]⟩ : ByteArray)] 23) (by kernel_rfl) (by kernel_rfl) ?_
      clear hF hO; intro b2 W2 a hO hF
      refine ⟨hO.sub (.cons _ (.cons_cons _ (List.nil_sublist _))), ?_⟩
      refine A_one (i := 9) (listed' := #[true, true, true, true, true, true, true, true, true, true]) (by kernel_rfl) rfl (by kernel_rfl) ?_
      obtain ⟨W3, hst, hO1⟩ := run_storeAt (P := Tryd.prog) (k := 2) (T := 23) (off := 0) (v := .agg #[.string (s.extract 0 ((i : Int).toNat)), .string (s.extract (((i : Int) + 1).toNat) s.size)]) (cs := #[.string (⟨#[]⟩ : ByteArray), .string (⟨#[]⟩ : ByteArray)]) (cs' := #[.string (s.extract 0 ((i : Int).toNat)), .string (s.extract (((i : Int) + 1).toNat) s.size)]) hO (by kernel_rfl) (by kernel_rfl) (by kernel_rfl) (Nat.le_of_ble_eq_true (by kernel_rfl)) (by kernel_rfl) (.head _)
      refine OpK.skip hF (by kernel_rfl) (by kernel_rfl) (x_store (p := .pointer (some ⟨b2, 0, none⟩)) (v := .agg #[.string (s.extract 0 ((i : Int).toNat)), .string (s.extract (((i : Int) + 1).toNat) s.size)]) rfl (by kernel_rfl) (by kernel_rfl) hst) (by kernel_rfl) ?_
      clear hst hF; intro a hF; replace hO := hO1; clear hO1
      refine ⟨hO.sub (.cons _ (.cons_cons _ (List.nil_sublist _))), ?_⟩
      refine A_done (by kernel_rfl) ?_
      refine hK8 _ _ ?_
      refine wp_seq_k fun K9 hK9 => ?_
      refine wp_seq_k fun K10 hK10 => ?_
      refine wp_region_lit ?_
      refine L_val hF (by kernel_rfl) (by kernel_rfl) (v := .agg #[.string (s.extract 0 ((i : Int).toNat)), .string (s.extract (((i : Int) + 1).toNat) s.size)]) (x_load (p := .pointer (some ⟨b2, 0, none⟩)) rfl (by kernel_rfl) (run_loadA (k := 2) (by kernel_rfl) (by kernel_rfl) (hO.blk List.mem_cons_self) (by kernel_rfl) (by kernel_rfl))) (by kernel_rfl) ?_
      clear hF; intro a hF
      refine L_call hF (by kernel_rfl) (by kernel_rfl) (by kernel_rfl) (by kernel_rfl) (ref05_Key (⟨s.extract 0 ((i : Int).toNat), s.extract (((i : Int) + 1).toNat) s.size⟩ : Key) W3 (by simp only [ByteArray.size_extract]; omega) (by simp only [ByteArray.size_extract]; omega)) ?_
      clear hF; rintro _ W4 a ⟨rfl, hk⟩ hF
      replace hO := hO.call0 hk; clear hk
      refine L_nil ?_
      refine hK10 _ _ ?_
      cases q3 : (keyB (⟨s.extract 0 ((i : Int).toNat), s.extract (((i : Int) + 1).toNat) s.size⟩ : Key) : Bool)
      ·
        replace hF := hF.know (d := 25) (v' := .bool false) (by kernel_rfl) (congrArg Value.bool q3)
        refine cond_f hF (by kernel_rfl) (by kernel_rfl) ?_
        refine wp_skip ?_
        refine hK9 _ _ ?_
        refine wp_seq_k fun K11 hK11 => ?_
        refine wp_region_lit ?_
        refine L_val hF (by kernel_rfl) (by kernel_rfl) (v := .agg #[.string (⟨#[]⟩ : ByteArray), .string (⟨#[]⟩ : ByteArray)]) (by kernel_rfl) (by kernel_rfl) ?_
        clear hF; intro a hF
        obtain ⟨W5, hst, hO1⟩ := run_storeAt (P := Tryd.prog) (k := 2) (T := 23) (off := 0) (v := .agg #[.string (⟨#[]⟩ : ByteArray), .string (⟨#[]⟩ : ByteArray)]) (cs := #[.string (⟨#[]⟩ : ByteArray), .string (⟨#[]⟩ : ByteArray)]) (cs' := #[.string (⟨#[]⟩ : ByteArray), .string (⟨#[]⟩ : ByteArray)]) hO (by kernel_rfl) (by kernel_rfl) (by kernel_rfl) (Nat.le_of_ble_eq_true (by kernel_rfl)) (by kernel_rfl) (.tail (.head _))
        refine L_skip hF (by kernel_rfl) (by kernel_rfl) (x_store (p := .pointer (some ⟨b1, 0, none⟩)) (v := .agg #[.string (⟨#[]⟩ : ByteArray), .string (⟨#[]⟩ : ByteArray)]) rfl (by kernel_rfl) (by kernel_rfl) hst) (by kernel_rfl) ?_
        clear hst hF; intro a hF; replace hO := hO1; clear hO1
        refine L_val hF (by kernel_rfl) (by kernel_rfl) (v := .bool false) (by kernel_rfl) (by kernel_rfl) ?_
        clear hF; intro a hF
        refine L_nil ?_
        refine hK11 _ _ ?_
        refine wp_ret ?_
        refine block_ret ?_
        refine then_ret ?_
        refine then_ret ?_
        refine block_ret ?_
        refine then_ret ?_
        -- way 1: (i : Int) < (s.size : Int); bt s (i : Int) = 47; ¬ keyB (⟨s.extract 0 ((i : Int).toNat), s.extract (((i : Int) + 1).toNat) s.size⟩ : Key)
        refine ret2 hF (v := .agg #[.string (⟨#[]⟩ : ByteArray), .string (⟨#[]⟩ : ByteArray)]) (u := .bool false) rfl (resC (ad := ⟨b1, 0, none⟩) (by kernel_rfl) (run_loadA (k := 2) (by kernel_rfl) (by kernel_rfl) (hO.blk (List.mem_cons_of_mem _ List.mem_cons_self)) (by kernel_rfl) (by kernel_rfl))) (resT (by kernel_rfl)) (by refine ⟨?_, hO.nil⟩; first | (rw [parse_hit s i (by omega) hI.2 (by omega), if_pos ‹_›]; rfl) | (rw [parse_hit s i (by omega) hI.2 (by omega), if_neg (ne_true_of_eq_false (by assumption))]; rfl) | (rw [parse_none s (by have := hI.2; rwa [List.take_of_length_le (by show s.size ≤ i; omega)] at this)]; rfl)) .ret (.inl rfl)
      ·
        replace hF := hF.know (d := 25) (v' := .bool true) (by kernel_rfl) (congrArg Value.bool q3)
        refine cond_t hF (by kernel_rfl) (by kernel_rfl) ?_
        refine wp_seq_k fun K12 hK12 => ?_
        refine wp_region_lit ?_
        refine L_val hF (by kernel_rfl) (by kernel_rfl) (v := .agg #[.string (s.extract 0 ((i : Int).toNat)), .string (s.extract (((i : Int) + 1).toNat) s.size)]) (x_load (p := .pointer (some ⟨b2, 0, none⟩)) rfl (by kernel_rfl) (run_loadA (k := 2) (by kernel_rfl) (by kernel_rfl) (hO.blk List.mem_cons_self) (by kernel_rfl) (by kernel_rfl))) (by kernel_rfl) ?_
        clear hF; intro a hF
        obtain ⟨W6, hst, hO1⟩ := run_storeAt (P := Tryd.prog) (k := 2) (T := 23) (off := 0) (v := .agg #[.string (s.extract 0 ((i : Int).toNat)), .string (s.extract (((i : Int) + 1).toNat) s.size)]) (cs := #[.string (⟨#[]⟩ : ByteArray), .string (⟨#[]⟩ : ByteArray)]) (cs' := #[.string (s.extract 0 ((i : Int).toNat)), .string (s.extract (((i : Int) + 1).toNat) s.size)]) hO (by kernel_rfl) (by kernel_rfl) (by kernel_rfl) (Nat.le_of_ble_eq_true (by kernel_rfl)) (by kernel_rfl) (.tail (.head _))
        refine L_skip hF (by kernel_rfl) (by kernel_rfl) (x_store (p := .pointer (some ⟨b1, 0, none⟩)) (v := .agg #[.string (s.extract 0 ((i : Int).toNat)), .string (s.extract (((i : Int) + 1).toNat) s.size)]) rfl (by kernel_rfl) (by kernel_rfl) hst) (by kernel_rfl) ?_
        clear hst hF; intro a hF; replace hO := hO1; clear hO1
        refine L_val hF (by kernel_rfl) (by kernel_rfl) (v := .bool true) (by kernel_rfl) (by kernel_rfl) ?_
        clear hF; intro a hF
        refine L_nil ?_
        refine hK12 _ _ ?_
        refine wp_ret ?_
        refine then_ret ?_
        refine block_ret ?_
        refine then_ret ?_
        refine then_ret ?_
        refine block_ret ?_
        refine then_ret ?_
        -- way 2: (i : Int) < (s.size : Int); bt s (i : Int) = 47; keyB (⟨s.extract 0 ((i : Int).toNat), s.extract (((i : Int) + 1).toNat) s.size⟩ : Key)
        refine ret2 hF (v := .agg #[.string (s.extract 0 ((i : Int).toNat)), .string (s.extract (((i : Int) + 1).toNat) s.size)]) (u := .bool true) rfl (resC (ad := ⟨b1, 0, none⟩) (by kernel_rfl) (run_loadA (k := 2) (by kernel_rfl) (by kernel_rfl) (hO.blk (List.mem_cons_of_mem _ List.mem_cons_self)) (by kernel_rfl) (by kernel_rfl))) (resT (by kernel_rfl)) (by refine ⟨?_, hO.nil⟩; first | (rw [parse_hit s i (by omega) hI.2 (by omega), if_pos ‹_›]; rfl) | (rw [parse_hit s i (by omega) hI.2 (by omega), if_neg (ne_true_of_eq_false (by assumption))]; rfl) | (rw [parse_none s (by have := hI.2; rwa [List.take_of_length_le (by show s.size ≤ i; omega)] at this)]; rfl)) .ret (.inl rfl)
    ·
      replace hF := hF.know (d := 15) (v' := .bool false) (by kernel_rfl) (congrArg Value.bool (eqF q2))
      refine cond_f hF (by kernel_rfl) (by kernel_rfl) ?_
      refine wp_skip ?_
      refine block_normal ?_
      refine hK6 _ _ ?_
      refine wp_region_lit ?_
      refine L_val hF (by kernel_rfl) (by kernel_rfl) (v := .int .i64 ((i : Int))) (by kernel_rfl) (by kernel_rfl) ?_
      clear hF; intro a hF
      refine L_val hF (by kernel_rfl) (by kernel_rfl) (v := .int .i64 ((i : Int) + 1)) (x_int (x := IntKind.i64.wrap ((i : Int) + 1)) (i64In (by omega) (by omega)) (by kernel_rfl)) (by kernel_rfl) ?_
      clear hF; intro a hF
      refine L_val hF (by kernel_rfl) (by kernel_rfl) (v := .int .i64 ((i : Int) + 1)) (by kernel_rfl) (by kernel_rfl) ?_
      clear hF; intro a hF
      refine L_nil ?_
      refine hK_1 (i + 1) _ _ (by first | omega | (dsimp only; omega)) ⟨⟨by omega, not_mem_succ s i (by omega) hI.2 (by omega)⟩, ?_, ?_⟩
      · exact hF.restrict ⟨(by kernel_rfl), (by kernel_rfl), (congrArg some (by first | rfl | exact congrArg (Value.int _) (by omega) | simp)), trivial⟩
      · exact hO.sub (.cons_cons _ (List.nil_sublist _))
  ·
    replace hF := hF.know (d := 9) (v' := .bool false) (by kernel_rfl) (congrArg Value.bool (decide_eq_false q1))
    refine cond_f hF (by kernel_rfl) (by kernel_rfl) ?_
    refine wp_exit ?_
    refine then_exit ?_
    refine then_exit ?_
    refine inBlock_hit ?_
    refine hK2 _ _ ?_
    refine wp_seq_k fun K13 hK13 => ?_
    refine wp_region_lit ?_
    refine L_val hF (by kernel_rfl) (by kernel_rfl) (v := .agg #[.string (⟨#[]⟩ : ByteArray), .string (⟨#[]⟩ : ByteArray)]) (by kernel_rfl) (by kernel_rfl) ?_
    clear hF; intro a hF
    obtain ⟨W7, hst, hO1⟩ := run_storeAt (P := Tryd.prog) (k := 2) (T := 23) (off := 0) (v := .agg #[.string (⟨#[]⟩ : ByteArray), .string (⟨#[]⟩ : ByteArray)]) (cs := #[.string (⟨#[]⟩ : ByteArray), .string (⟨#[]⟩ : ByteArray)]) (cs' := #[.string (⟨#[]⟩ : ByteArray), .string (⟨#[]⟩ : ByteArray)]) hO (by kernel_rfl) (by kernel_rfl) (by kernel_rfl) (Nat.le_of_ble_eq_true (by kernel_rfl)) (by kernel_rfl) (.head _)
    refine L_skip hF (by kernel_rfl) (by kernel_rfl) (x_store (p := .pointer (some ⟨b1, 0, none⟩)) (v := .agg #[.string (⟨#[]⟩ : ByteArray), .string (⟨#[]⟩ : ByteArray)]) rfl (by kernel_rfl) (by kernel_rfl) hst) (by kernel_rfl) ?_
    clear hst hF; intro a hF; replace hO := hO1; clear hO1
    refine L_val hF (by kernel_rfl) (by kernel_rfl) (v := .bool false) (by kernel_rfl) (by kernel_rfl) ?_
    clear hF; intro a hF
    refine L_nil ?_
    refine hK13 _ _ ?_
    refine wp_ret ?_
    -- way 3: ¬ (i : Int) < (s.size : Int)
    refine ret2 hF (v := .agg #[.string (⟨#[]⟩ : ByteArray), .string (⟨#[]⟩ : ByteArray)]) (u := .bool false) rfl (resC (ad := ⟨b1, 0, none⟩) (by kernel_rfl) (run_loadA (k := 2) (by kernel_rfl) (by kernel_rfl) (hO.blk List.mem_cons_self) (by kernel_rfl) (by kernel_rfl))) (resT (by kernel_rfl)) (by refine ⟨?_, hO.nil⟩; first | (rw [parse_hit s i (by omega) hI.2 (by omega), if_pos ‹_›]; rfl) | (rw [parse_hit s i (by omega) hI.2 (by omega), if_neg (ne_true_of_eq_false (by assumption))]; rfl) | (rw [parse_none s (by have := hI.2; rwa [List.take_of_length_le (by show s.size ≤ i; omega)] at this)]; rfl)) .ret (.inl rfl)

end Go.Proofs.YtkeialdhogfdjaaDoor
