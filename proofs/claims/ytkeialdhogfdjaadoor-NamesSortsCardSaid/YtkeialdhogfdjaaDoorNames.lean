/- Labels and keys, in plain words. -/
import Derived.Test.YtkeialdhogfdjaaDoorApi
import Derived.Lib.SlTrimSet
import Derived.Lib.Strings
import Derived.Lib.IndexMore
namespace Go.Proofs.YtkeialdhogfdjaaDoor
open Go Go.RowKit

def labCh (c : UInt8) : Bool := c == 45 || (decide (97 ≤ c) && decide (c ≤ 122)) || (decide (48 ≤ c) && decide (c ≤ 57))
def labelB (s : ByteArray) : Bool :=
  decide (1 ≤ s.size) && decide (s.size ≤ 15) && !decide (bt s 0 = 45) && !decide (bt s ((s.size : Int) - 1) = 45) && s.data.toList.all labCh
def keyB (k : Key) : Bool := labelB k.space && labelB k.name

/-- The bytes of labels, as the program lists them. -/
def labSet : List UInt8 := [97, 98, 99, 100, 101, 102, 103, 104, 105, 106, 107, 108, 109, 110, 111, 112, 113, 114, 115, 116, 117, 118, 119, 120, 121, 122, 48, 49, 50, 51, 52, 53, 54, 55, 56, 57, 45]

theorem labSet_has (c : UInt8) : labSet.contains c = labCh c := by
  have h : ∀ c : Fin 256, labSet.contains (UInt8.ofFin c) = labCh (UInt8.ofFin c) := by decide +kernel
  exact h c.toFin

theorem dropWhile_all {α : Type} (p : α → Bool) (l : List α) : l.dropWhile p = [] ↔ l.all p = true := by
  induction l with
  | nil => simp
  | cons a t ih =>
    simp only [List.dropWhile_cons, List.all_cons, Bool.and_eq_true]
    by_cases h : p a = true
    · simp [h, ih]
    · simp [h]

theorem trimS_nil (l cs : List UInt8) : Lib.trimS l cs = [] ↔ l.all (cs.contains ·) = true := by
  unfold Lib.trimS Lib.trimLeftS Lib.trimRightS
  rw [dropWhile_all]
  constructor
  · intro h
    by_cases hr : l.reverse.dropWhile (cs.contains ·) = []
    · rw [dropWhile_all] at hr; simpa using hr
    · exfalso
      have hne := hr
      obtain ⟨x, t, hx⟩ := List.exists_cons_of_ne_nil hr
      have h1 : cs.contains x = false := by
        have := List.head?_dropWhile_not (cs.contains ·) l.reverse
        rw [hx] at this
        simpa using this
      rw [List.all_reverse, hx, List.all_cons, h1] at h
      simp at h
  · intro h
    have : l.reverse.dropWhile (cs.contains ·) = [] := by rw [dropWhile_all]; simpa using h
    rw [this]; rfl

theorem hasPrefix1 (l : List UInt8) (c : UInt8) : Lib.hasPrefix l [c] = decide (l[0]? = some c) := by
  cases l with
  | nil => rfl
  | cons a t =>
    rw [Bool.eq_iff_iff]
    simp [Lib.hasPrefix, List.isPrefixOf]
    exact ⟨fun h => h.symm, fun h => h.symm⟩

theorem bt_zero (s : ByteArray) : decide (bt s 0 = 45) = decide (s.data.toList[0]? = some 45) := by
  unfold bt
  rw [show (0 : Int).toNat = 0 from rfl, ← Array.getElem?_toList]
  cases s.data.toList[0]? with
  | none => decide
  | some c =>
    rw [Bool.eq_iff_iff, decide_eq_true_iff, decide_eq_true_iff]
    simp only [Option.getD_some, Option.some.injEq]
    constructor
    · intro h; exact UInt8.toNat_inj.1 (Int.ofNat.inj h)
    · intro h; rw [h]; rfl

theorem bt_last (s : ByteArray) (h : s.data.toList ≠ []) : decide (bt s ((s.size : Int) - 1) = 45) = decide (s.data.toList[s.data.toList.length - 1]? = some 45) := by
  unfold bt
  have e : ((s.size : Int) - 1).toNat = s.data.toList.length - 1 := by show ((s.data.toList.length : Int) - 1).toNat = _; omega
  rw [e, ← Array.getElem?_toList]
  have hl : s.data.toList.length - 1 < s.data.toList.length := by have := List.length_pos_iff.2 h; omega
  rw [List.getElem?_eq_getElem hl]
  rw [Bool.eq_iff_iff, decide_eq_true_iff, decide_eq_true_iff]
  simp only [Option.getD_some, Option.some.injEq]
  constructor
  · intro h; exact UInt8.toNat_inj.1 (Int.ofNat.inj h)
  · intro h; rw [h]; rfl

theorem hasSuffix1 (l : List UInt8) (c : UInt8) (h : l ≠ []) : Lib.hasSuffix l [c] = decide (l[l.length - 1]? = some c) := by
  unfold Lib.hasSuffix
  rw [Bool.eq_iff_iff, List.isSuffixOf_iff_suffix, decide_eq_true_iff]
  rw [List.suffix_iff_eq_drop]
  have hp := List.length_pos_iff.2 h
  have hl : l.length - 1 < l.length := by omega
  rw [List.getElem?_eq_getElem hl]
  have : l.drop (l.length - [c].length) = [l[l.length - 1]] := by
    show l.drop (l.length - 1) = _
    rw [List.drop_eq_getElem_cons hl, List.drop_eq_nil_of_le (by omega)]
  rw [this]
  simp only [List.cons.injEq, and_true, Option.some.injEq]
  exact ⟨fun h => h.symm, fun h => h.symm⟩

theorem label_eq (s : ByteArray) :
    (strEq ⟨(Lib.trimS s.data.toList labSet).toArray⟩ ⟨#[]⟩ && !Lib.hasPrefix s.data.toList [45] && !Lib.hasSuffix s.data.toList [45] && !strEq s ⟨#[]⟩ && decide ((s.size : Int) ≤ 15)) = labelB s := by
  have h1 : strEq ⟨(Lib.trimS s.data.toList labSet).toArray⟩ ⟨#[]⟩ = s.data.toList.all labCh := by
    rw [Bool.eq_iff_iff, strEq_iff]
    have e : (fun c => labSet.contains c) = labCh := funext labSet_has
    rw [← e, ← trimS_nil]
    simp
  have h4 : (!strEq s ⟨#[]⟩) = decide (1 ≤ s.size) := by
    rw [strEq_dec, Bool.eq_iff_iff]
    simp only [Bool.not_eq_true', decide_eq_false_iff_not, decide_eq_true_iff, empty_iff]
    omega
  have h5 : decide ((s.size : Int) ≤ 15) = decide (s.size ≤ 15) := by rw [Bool.eq_iff_iff, decide_eq_true_iff, decide_eq_true_iff]; omega
  by_cases hn : s.data.toList = []
  · have : s.size = 0 := by rw [← size_data, hn]; rfl
    rw [h1, h4]
    simp [labelB, this]
  · rw [h1, h4, h5, hasPrefix1, hasSuffix1 _ _ hn, ← bt_zero, ← bt_last s hn]
    unfold labelB
    generalize s.data.toList.all labCh = a
    generalize decide (bt s 0 = 45) = b
    generalize decide (bt s ((s.size : Int) - 1) = 45) = c
    generalize decide (1 ≤ s.size) = d
    generalize decide (s.size ≤ 15) = e
    cases a <;> cases b <;> cases c <;> cases d <;> cases e <;> rfl

/-! ### byte by byte -/
def chOK (x : Int) : Prop := x = 45 ∨ (97 ≤ x ∧ x ≤ 122) ∨ (48 ≤ x ∧ x ≤ 57)
theorem labCh_bt (s : ByteArray) (i : Nat) (h : i < s.data.toList.length) : labCh s.data.toList[i] = true ↔ chOK (bt s i) := by
  rw [bt_get s i h]
  generalize s.data.toList[i] = c
  simp only [labCh, chOK, Bool.or_eq_true, Bool.and_eq_true, decide_eq_true_iff, beq_iff_eq, UInt8.le_iff_toNat_le]
  have h1 : c = 45 ↔ (c.toNat : Int) = 45 := ⟨fun h => by rw [h]; rfl, fun h => UInt8.toNat_inj.1 (Int.ofNat.inj h)⟩
  rw [h1]
  have e1 : UInt8.toNat 97 = 97 := rfl
  have e2 : UInt8.toNat 122 = 122 := rfl
  have e3 : UInt8.toNat 48 = 48 := rfl
  have e4 : UInt8.toNat 57 = 57 := rfl
  omega

theorem all_take_succ (s : ByteArray) (i : Nat) (hi : i < s.size) (h : (s.data.toList.take i).all labCh = true) (hc : chOK (bt s i)) : (s.data.toList.take (i + 1)).all labCh = true := by
  have hi' : i < s.data.toList.length := hi
  rw [List.take_succ_eq_append_getElem hi', List.all_append, h, Bool.true_and]
  simp only [List.all_cons, List.all_nil, Bool.and_true]
  exact (labCh_bt s i hi').2 hc

theorem all_no (s : ByteArray) (i : Nat) (hi : i < s.size) (hc : ¬ chOK (bt s i)) : s.data.toList.all labCh = false := by
  have hi' : i < s.data.toList.length := hi
  rw [← Bool.not_eq_true]
  intro h
  exact hc ((labCh_bt s i hi').1 (List.all_eq_true.1 h _ (List.getElem_mem hi')))

theorem labelB_no (s : ByteArray) (i : Nat) (hi : i < s.size) (hc : ¬ chOK (bt s i)) : labelB s = false := by
  unfold labelB
  rw [all_no s i hi hc, Bool.and_false]

theorem labelB_head (s : ByteArray) (h : ¬ (1 ≤ s.size ∧ s.size ≤ 15 ∧ ¬ bt s 0 = 45 ∧ ¬ bt s ((s.size : Int) - 1) = 45)) : labelB s = false := by
  unfold labelB
  rw [← Bool.not_eq_true]
  simp only [Bool.and_eq_true, Bool.not_eq_true', decide_eq_true_iff, decide_eq_false_iff_not]
  intro h'
  exact h ⟨h'.1.1.1.1, h'.1.1.1.2, h'.1.1.2, h'.1.2⟩

theorem labelB_yes (s : ByteArray) (h : 1 ≤ s.size ∧ s.size ≤ 15 ∧ ¬ bt s 0 = 45 ∧ ¬ bt s ((s.size : Int) - 1) = 45) (hc : s.data.toList.all labCh = true) : labelB s = true := by
  unfold labelB
  rw [hc]
  simp only [Bool.and_eq_true, Bool.not_eq_true', decide_eq_true_iff, decide_eq_false_iff_not]
  exact ⟨⟨⟨⟨h.1, h.2.1⟩, h.2.2.1⟩, h.2.2.2⟩, trivial⟩

/-! ### The text of a key, and back -/
def fmtKey (k : Key) : ByteArray := if keyB k = true then k.space ++ ⟨#[47]⟩ ++ k.name else ⟨#[]⟩
def cutKey (s : ByteArray) : Key := ⟨⟨(Lib.cut s.data.toList [47]).1.toArray⟩, ⟨(Lib.cut s.data.toList [47]).2.1.toArray⟩⟩
def parseKey (s : ByteArray) : Option Key := if keyB (cutKey s) = true then some (cutKey s) else none
def retKey (ea : Nat → Addr) : Option Key → Value
  | some k => .tuple #[keyV k, .nilIface]
  | none => .tuple #[keyV noKey, errV ea 5]
def retKeyB : Option Key → Value
  | some k => .tuple #[keyV k, .bool true]
  | none => .tuple #[keyV noKey, .bool false]

theorem index1 (l : List UInt8) (c : UInt8) : ∀ (i : Nat), c ∉ l.take i → l[i]? = some c → Lib.index l [c] = (i : Int) := by
  induction l with
  | nil => intro i _ h; simp at h
  | cons a t ih =>
    intro i hn hi
    have hp : [c].isPrefixOf (a :: t) = decide (c = a) := by rw [Bool.eq_iff_iff]; simp [List.isPrefixOf]
    unfold Lib.index
    rw [hp]
    cases i with
    | zero =>
      simp only [List.getElem?_cons_zero, Option.some.injEq] at hi
      rw [hi]
      simp
    | succ k =>
      have hne : c ≠ a := fun e => hn (by rw [List.take_succ_cons, e]; exact List.mem_cons_self)
      have hn' : c ∉ t.take k := fun h => hn (by rw [List.take_succ_cons]; exact List.mem_cons_of_mem _ h)
      have h := ih k hn' (by simpa using hi)
      rw [h]
      have h0 : ¬ ((k : Int) == -1) = true := by rw [beq_iff_eq]; omega
      simp only [hne, decide_false, Bool.false_eq_true, if_false, h0]
      omega

theorem index1_none (l : List UInt8) (c : UInt8) (h : c ∉ l) : Lib.index l [c] = -1 := by
  induction l with
  | nil => rfl
  | cons a t ih =>
    have hp : [c].isPrefixOf (a :: t) = decide (c = a) := by rw [Bool.eq_iff_iff]; simp [List.isPrefixOf]
    unfold Lib.index
    rw [hp, ih (fun h' => h (List.mem_cons_of_mem _ h'))]
    have hne : c ≠ a := fun e => h (by rw [e]; exact List.mem_cons_self)
    simp [hne]

theorem cut_hit (l : List UInt8) (c : UInt8) (i : Nat) (hn : c ∉ l.take i) (hi : l[i]? = some c) : Lib.cut l [c] = (l.take i, l.drop (i + 1), true) := by
  unfold Lib.cut
  rw [index1 l c i hn hi]
  simp

theorem cut_none (l : List UInt8) (c : UInt8) (h : c ∉ l) : Lib.cut l [c] = (l, [], false) := by
  unfold Lib.cut
  rw [index1_none l c h]
  simp

theorem extract_toList (s : ByteArray) (a b : Nat) : (s.extract a b).data.toList = (s.data.toList.drop a).take (b - a) := by
  rw [ByteArray.data_extract, Array.toList_extract]

theorem bytes_eq {s t : ByteArray} (h : s.data.toList = t.data.toList) : s = t := by
  cases s; cases t
  simp only [ByteArray.mk.injEq]
  exact Array.toList_inj.1 h

theorem bt_eq (s : ByteArray) (i : Nat) (c : UInt8) (h : i < s.size) : bt s (i : Int) = (c.toNat : Int) ↔ s.data.toList[i]? = some c := by
  have h' : i < s.data.toList.length := h
  rw [bt_get s i h', List.getElem?_eq_getElem h']
  simp only [Option.some.injEq]
  exact ⟨fun e => UInt8.toNat_inj.1 (Int.ofNat.inj e), fun e => by rw [e]⟩

theorem cutKey_hit (s : ByteArray) (i : Nat) (hi : i < s.size) (hn : (47 : UInt8) ∉ s.data.toList.take i) (hb : bt s (i : Int) = 47) :
    (⟨s.extract 0 ((i : Int)).toNat, s.extract ((i : Int) + 1).toNat s.size⟩ : Key) = cutKey s := by
  have h := cut_hit s.data.toList 47 i hn ((bt_eq s i 47 hi).1 hb)
  unfold cutKey
  rw [h]
  apply Key.ext'
  · apply bytes_eq
    rw [extract_toList]
    simp
  · apply bytes_eq
    rw [extract_toList]
    have e : ((i : Int) + 1).toNat = i + 1 := by omega
    rw [e]
    show List.take (s.size - (i + 1)) (s.data.toList.drop (i + 1)) = _
    rw [List.take_of_length_le (by rw [List.length_drop, size_data]; omega)]

theorem parse_hit (s : ByteArray) (i : Nat) (hi : i < s.size) (hn : (47 : UInt8) ∉ s.data.toList.take i) (hb : bt s (i : Int) = 47) :
    parseKey s = if keyB ⟨s.extract 0 ((i : Int)).toNat, s.extract ((i : Int) + 1).toNat s.size⟩ = true then some ⟨s.extract 0 ((i : Int)).toNat, s.extract ((i : Int) + 1).toNat s.size⟩ else none := by
  rw [cutKey_hit s i hi hn hb]
  rfl

theorem labelB_empty : labelB ⟨#[]⟩ = false := by decide

theorem parse_none (s : ByteArray) (hn : (47 : UInt8) ∉ s.data.toList) : parseKey s = none := by
  unfold parseKey
  have h : keyB (cutKey s) = false := by
    unfold keyB cutKey
    rw [cut_none _ _ hn]
    show (_ && labelB ⟨#[]⟩) = false
    rw [labelB_empty, Bool.and_false]
  rw [h]
  simp

theorem not_mem_succ (s : ByteArray) (i : Nat) (hi : i < s.size) (hn : (47 : UInt8) ∉ s.data.toList.take i) (hb : ¬ bt s (i : Int) = 47) : (47 : UInt8) ∉ s.data.toList.take (i + 1) := by
  have h' : i < s.data.toList.length := hi
  rw [List.take_succ_eq_append_getElem h', List.mem_append, List.mem_singleton]
  rintro (h | h)
  · exact hn h
  · exact hb ((bt_eq s i 47 hi).2 (by rw [List.getElem?_eq_getElem h', ← h]))

theorem cut_size (s : ByteArray) : (cutKey s).space.size ≤ s.size ∧ (cutKey s).name.size ≤ s.size := by
  unfold cutKey Lib.cut
  show (⟨_⟩ : ByteArray).size ≤ s.data.toList.length ∧ (⟨_⟩ : ByteArray).size ≤ s.data.toList.length
  split
  · refine ⟨?_, ?_⟩
    · show (List.toArray _).size ≤ _
      simp
      omega
    · show (List.toArray _).size ≤ _
      simp
  · refine ⟨?_, ?_⟩
    · show (List.toArray _).size ≤ _
      simp
    · show (List.toArray _).size ≤ _
      simp

theorem labCh_47 : labCh 47 = false := by decide
theorem label_no47 (s : ByteArray) (h : labelB s = true) : (47 : UInt8) ∉ s.data.toList := by
  intro hm
  have : s.data.toList.all labCh = true := by
    unfold labelB at h
    simp only [Bool.and_eq_true] at h
    exact h.2
  have h47 := List.all_eq_true.1 this 47 hm
  rw [labCh_47] at h47
  cases h47

theorem data_append' (s t : ByteArray) : (s ++ t).data.toList = s.data.toList ++ t.data.toList := by
  rw [ByteArray.data_append, Array.toList_append]

theorem parse_fmt (k : Key) (h : keyB k = true) : parseKey (k.space ++ ⟨#[47]⟩ ++ k.name) = some k := by
  have h' := h
  unfold keyB at h'
  simp only [Bool.and_eq_true] at h'
  have hn := label_no47 _ h'.1
  have hc : cutKey (k.space ++ ⟨#[47]⟩ ++ k.name) = k := by
    have e : (k.space ++ ⟨#[47]⟩ ++ k.name).data.toList = k.space.data.toList ++ 47 :: k.name.data.toList := by
      rw [data_append', data_append']
      simp
    unfold cutKey
    rw [cut_hit _ 47 k.space.data.toList.length (by rw [e, List.take_left']; exact hn; rfl) (by rw [e, List.getElem?_append_right (Nat.le_refl _)]; simp), e]
    apply Key.ext'
    · apply bytes_eq
      simp
    · apply bytes_eq
      show (List.drop _ _).toArray.toList = _
      rw [List.drop_append]
      simp
  unfold parseKey
  rw [hc, if_pos h]
end Go.Proofs.YtkeialdhogfdjaaDoor
