/- Cidrs in order, and merged: plain laws. -/
import Derived.Test.YthellfigmpjhlaaGreatDoorCidr
import Derived.Test.YthellfigmpjhlaaGreatDoorCmp
import Derived.Test.YthellfigmpjhlaaGreatDoorInsert
import Derived.Shelf.SlSortCmp.Insertion
set_option linter.unusedVariables false
set_option linter.unusedSimpArgs false
namespace Go.Proofs.YthellfigmpjhlaaGreatDoor
open Go

/-! ### the order -/
theorem cmpL_zero : ∀ l m : List UInt8, l.length = m.length → cmpL l m = 0 → l = m
  | [], [], _, _ => rfl
  | x :: t, y :: u, h, e => by
    unfold cmpL at e
    by_cases h1 : x < y
    · rw [if_pos h1] at e; exact absurd e (by decide)
    · rw [if_neg h1] at e
      by_cases h2 : y < x
      · rw [if_pos h2] at e; exact absurd e (by decide)
      · rw [if_neg h2] at e
        have : x = y := UInt8.le_antisymm (UInt8.not_lt.1 h2) (UInt8.not_lt.1 h1)
        rw [this, cmpL_zero t u (by simpa using h) e]
theorem refIp_zero {a b : Ip} (h : refIp a b = 0) : a = b := by
  unfold refIp at h
  by_cases h6 : a.six = b.six
  · rw [if_pos h6] at h
    exact Ip.ext_bytes h6 (cmpL_zero _ _ (by rw [Ip.bytes_len, Ip.bytes_len]) h)
  · rw [if_neg h6] at h
    split at h <;> exact absurd h (by decide)
theorem cmpInt_le {x y : Int} : cmpInt x y ≤ 0 ↔ x ≤ y := by
  unfold cmpInt
  repeat' split
  all_goals omega
theorem cmpInt_neg (x y : Int) : cmpInt y x = - cmpInt x y := by unfold cmpInt; repeat' split
                                                                 all_goals omega
theorem cmpInt_zero {x y : Int} : cmpInt x y = 0 ↔ x = y := by
  unfold cmpInt
  repeat' split
  all_goals omega
theorem cmpCd_neg (c d : Pt) : cmpCd d c = - cmpCd c d := by
  unfold cmpCd
  rw [refIp_neg c.ip d.ip]
  by_cases h : refIp c.ip d.ip = 0
  · rw [if_pos h, if_pos (by omega), cmpInt_neg]
  · rw [if_neg h, if_neg (by omega)]
theorem cmpCd_zero {c d : Pt} (h : cmpCd c d = 0) : c = d := by
  unfold cmpCd at h
  by_cases h1 : refIp c.ip d.ip = 0
  · rw [if_pos h1] at h
    obtain ⟨ci, cp⟩ := c
    obtain ⟨di, dp⟩ := d
    have e1 : ci = di := refIp_zero h1
    have e2 : cp = dp := cmpInt_zero.1 h
    rw [e1, e2]
  · rw [if_neg h1] at h; exact absurd h h1
theorem cmpCd_self (c : Pt) : cmpCd c c = 0 := by unfold cmpCd; rw [if_pos (refIp_self _)]; exact cmpInt_zero.2 rfl
theorem cmpCd_ip {c d : Pt} (h : cmpCd c d ≤ 0) : refIp c.ip d.ip ≤ 0 := by
  unfold cmpCd at h
  split at h
  · omega
  · exact h
theorem cmpCd_trans {a b c : Pt} (h1 : cmpCd a b ≤ 0) (h2 : cmpCd b c ≤ 0) : cmpCd a c ≤ 0 := by
  have hT := refIp_trans a.ip b.ip c.ip (cmpCd_ip h1) (cmpCd_ip h2)
  unfold cmpCd
  by_cases h : refIp a.ip c.ip = 0
  · rw [if_pos h]
    have e1 := refIp_zero h
    have e2 : refIp a.ip b.ip = 0 := by
      have ha := cmpCd_ip h1
      have hb := cmpCd_ip h2
      have hn := refIp_neg a.ip b.ip
      rw [← e1] at hb
      omega
    have e3 := refIp_zero e2
    have h1' : cmpInt a.port b.port ≤ 0 := by unfold cmpCd at h1; rw [if_pos e2] at h1; exact h1
    have h2' : cmpInt b.port c.port ≤ 0 := by unfold cmpCd at h2; rw [if_pos (by rw [← e3, h])] at h2; exact h2
    rw [cmpInt_le] at *
    omega
  · rw [if_neg h]; exact hT
def ltCd (c d : Pt) : Bool := decide (cmpCd c d < 0)
theorem ltCd_irr (x : Pt) : ltCd x x = false := by unfold ltCd; rw [cmpCd_self]; rfl
theorem ltCd_tr (x y z : Pt) (h1 : ltCd x y = true) (h2 : ltCd y z = true) : ltCd x z = true := by
  unfold ltCd at *
  rw [decide_eq_true_iff] at *
  have h3 := cmpCd_trans (a := x) (b := y) (c := z) (by omega) (by omega)
  by_cases e : cmpCd x z = 0
  · have := cmpCd_zero e
    subst this
    have := cmpCd_neg x y
    omega
  · omega
theorem ltCd_conn (x y : Pt) (h1 : ltCd x y = false) (h2 : ltCd y x = false) : x = y := by
  unfold ltCd at *
  rw [decide_eq_false_iff_not] at *
  have := cmpCd_neg x y
  exact cmpCd_zero (by omega)
theorem ltOf_cd : Go.Proofs.ltOf cmpCd = ltCd := by funext a b; rfl
theorem swoCd : Go.Sort.SWO (Go.Proofs.ltOf cmpCd) := by
  rw [ltOf_cd]
  refine ⟨ltCd_irr, ltCd_tr, fun x y z h1 h2 => ?_⟩
  cases h3 : ltCd x z with
  | false => rfl
  | true =>
    cases h4 : ltCd y x with
    | true => have := ltCd_tr _ _ _ h4 h3; rw [h2] at this; cases this
    | false => have := ltCd_conn _ _ h1 h4; subst this; rw [h2] at h3; cases h3
theorem totCd : ∀ x y : Pt, Go.Proofs.ltOf cmpCd x y = false → Go.Proofs.ltOf cmpCd y x = false → x = y := fun x y h1 h2 => by
  rw [ltOf_cd] at h1 h2
  exact ltCd_conn x y h1 h2

/-! ### first bits in order -/
theorem keep_val : ∀ b : Fin 256, ∀ k : Fin 9, (keepB (UInt8.ofNat b.val) k.val).toNat = b.val / 2 ^ (8 - k.val) * 2 ^ (8 - k.val) := by decide +kernel
theorem keep_nat (b : UInt8) {k : Nat} (hk : k ≤ 8) : (keepB b k).toNat = b.toNat / 2 ^ (8 - k) * 2 ^ (8 - k) := by
  have := keep_val ⟨b.toNat, b.toNat_lt⟩ ⟨k, by omega⟩
  simpa only [ofNat_self] using this
theorem keep_le {a b : UInt8} {k : Nat} (hk : k ≤ 8) (h : a.toNat ≤ b.toNat) : (keepB a k).toNat ≤ (keepB b k).toNat := by
  rw [keep_nat a hk, keep_nat b hk]
  exact Nat.mul_le_mul_right _ (Nat.div_le_div_right h)
theorem cut_at (x : Ip) (n : Int) (i : Nat) (hi : i < 16) : (cutIp x n).at i = keepB (x.at i) (keepK n i) := by
  unfold cutIp; rw [mix_at x n i 16 (Nat.le_refl _), if_pos hi]
theorem keep_none (b : UInt8) : keepB b 0 = 0 := by
  have := keep_nat b (k := 0) (by omega)
  have hb := b.toNat_lt
  refine UInt8.toNat_inj.1 ?_
  rw [this, show b.toNat / 2 ^ (8 - 0) = 0 from Nat.div_eq_of_lt hb]
  rfl
theorem keep_eight (b : UInt8) : keepB b 8 = b := by
  have := keep_nat b (k := 8) (by omega)
  refine UInt8.toNat_inj.1 ?_
  rw [this]
  simp
theorem tail_eq {x y : Ip} : ∀ (k i : Nat), i + k = 16 → (∀ j, i ≤ j → j < 16 → x.at j = y.at j) → x.bytes.drop i = y.bytes.drop i
  | 0, i, h, _ => by rw [List.drop_of_length_le (by rw [Ip.bytes_len]; omega), List.drop_of_length_le (by rw [Ip.bytes_len]; omega)]
  | k + 1, i, h, hx => by rw [at_drop x i (by omega), at_drop y i (by omega), hx i (Nat.le_refl _) (by omega), tail_eq k (i + 1) (by omega) fun j h1 h2 => hx j (by omega) h2]
theorem cut_le_go {x y : Ip} {n : Int} : ∀ (k i : Nat), i + k = 16 → cmpL (x.bytes.drop i) (y.bytes.drop i) ≤ 0 → cmpL ((cutIp x n).bytes.drop i) ((cutIp y n).bytes.drop i) ≤ 0
  | 0, i, h, _ => by rw [List.drop_of_length_le (by rw [Ip.bytes_len]; omega)]; exact Int.le_refl _
  | k + 1, i, h, hx => by
    rw [at_drop x i (by omega), at_drop y i (by omega), cmpL] at hx
    rw [at_drop (cutIp x n) i (by omega), at_drop (cutIp y n) i (by omega), cmpL]
    have hK := keepK_le n i
    by_cases h1 : x.at i < y.at i
    · have h1' := UInt8.lt_iff_toNat_lt.1 h1
      have hle := keep_le hK (Nat.le_of_lt h1')
      rw [← cut_at x n i (by omega), ← cut_at y n i (by omega)] at hle
      by_cases h2 : (cutIp x n).at i < (cutIp y n).at i
      · rw [if_pos h2]; decide
      · have he : (cutIp x n).at i = (cutIp y n).at i := UInt8.toNat_inj.1 (by
          have : ¬ ((cutIp x n).at i).toNat < ((cutIp y n).at i).toNat := fun h => h2 (UInt8.lt_iff_toNat_lt.2 h)
          omega)
        rw [he, if_neg (UInt8.lt_irrefl _), if_neg (UInt8.lt_irrefl _)]
        have h8 : keepK n i ≠ 8 := fun e => by
          rw [cut_at x n i (by omega), cut_at y n i (by omega), e, keep_eight, keep_eight] at he
          rw [he] at h1
          exact UInt8.lt_irrefl _ h1
        have hz : ∀ j, i + 1 ≤ j → j < 16 → (cutIp x n).at j = (cutIp y n).at j := fun j hj1 hj2 => by
          rw [cut_at x n j hj2, cut_at y n j hj2, show keepK n j = 0 by unfold keepK at h8 ⊢; omega, keep_none, keep_none]
        rw [tail_eq k (i + 1) (by omega) hz, cmpL_self]
        exact Int.le_refl _
    · rw [if_neg h1] at hx
      by_cases h2 : y.at i < x.at i
      · rw [if_pos h2] at hx; exact absurd hx (by decide)
      · rw [if_neg h2] at hx
        have he : x.at i = y.at i := UInt8.le_antisymm (UInt8.not_lt.1 h2) (UInt8.not_lt.1 h1)
        rw [cut_at x n i (by omega), cut_at y n i (by omega), he, if_neg (UInt8.lt_irrefl _), if_neg (UInt8.lt_irrefl _)]
        exact cut_le_go k (i + 1) (by omega) hx
theorem cut_le {x y : Ip} (n : Int) (h6 : x.six = y.six) (h : refIp x y ≤ 0) : refIp (cutIp x n) (cutIp y n) ≤ 0 := by
  unfold refIp at h ⊢
  rw [if_pos h6] at h
  rw [cut_six, cut_six, if_pos h6]
  exact cut_le_go 16 0 rfl h
theorem cut_below (x : Ip) (n : Int) : refIp (cutIp x n) x ≤ 0 := by
  have hge : ∀ (k i : Nat), i + k = 16 → cmpL ((cutIp x n).bytes.drop i) (x.bytes.drop i) ≤ 0 := by
    intro k
    induction k with
    | zero => intro i h; rw [List.drop_of_length_le (by rw [Ip.bytes_len]; omega)]; exact Int.le_refl _
    | succ k ih =>
      intro i h
      rw [at_drop (cutIp x n) i (by omega), at_drop x i (by omega), cmpL]
      have hK := keepK_le n i
      have hv := keep_nat (x.at i) hK
      have hle : (keepB (x.at i) (keepK n i)).toNat ≤ (x.at i).toNat := by rw [hv]; exact Nat.div_mul_le_self _ _
      rw [cut_at x n i (by omega)]
      by_cases h1 : keepB (x.at i) (keepK n i) < x.at i
      · rw [if_pos h1]; decide
      · rw [if_neg h1, if_neg (fun h2 => by have := UInt8.lt_iff_toNat_lt.1 h2; omega)]
        exact ih (i + 1) (by omega)
  unfold refIp
  rw [cut_six, if_pos rfl]
  exact hge 16 0 rfl
theorem cut_less {x : Ip} {n m : Int} (h : n ≤ m) : cutIp (cutIp x m) n = cutIp x n := Ip.ext_bit (by rw [cut_six, cut_six, cut_six]) fun i hi => by
  rw [cut_bit _ n hi, cut_bit x m hi, cut_bit x n hi]
  by_cases h1 : (i : Int) < n
  · rw [if_pos h1, if_pos (by omega), if_pos h1]
  · rw [if_neg h1, if_neg h1]
theorem cut_more {x : Ip} {n m : Int} (h : m ≤ n) : cutIp (cutIp x m) n = cutIp x m := Ip.ext_bit (by rw [cut_six]) fun i hi => by
  rw [cut_bit _ n hi, cut_bit x m hi]
  by_cases h1 : (i : Int) < m
  · rw [if_pos h1, if_pos (by omega)]
  · rw [if_neg h1]; split <;> rfl

/-! ### who covers whom -/
theorem cov_iff {c d : Pt} : covCd c d = true ↔ rightCd c = true ∧ rightCd d = true ∧ c.port ≤ d.port ∧ d.ip.six = c.ip.six ∧ cutIp d.ip c.port = c.ip := by
  unfold covCd contCd
  simp only [Bool.and_eq_true, decide_eq_true_eq, beq_iff_eq]
  constructor
  · rintro ⟨⟨h1, h2⟩, ⟨⟨h3, h4⟩, h5⟩, h6⟩; exact ⟨h3, h1, h2, h5, h6⟩
  · rintro ⟨h1, h2, h3, h4, h5⟩; exact ⟨⟨h2, h3⟩, ⟨⟨h1, (rightCd_bd h2).2.2.1⟩, h4⟩, h5⟩
theorem cov_self {c : Pt} (h : rightCd c = true) : covCd c c = true := cov_iff.2 ⟨h, h, Int.le_refl _, rfl, (rightCd_bd h).2.2.2.1⟩
theorem cov_le {c d : Pt} (h : covCd c d = true) : cmpCd c d ≤ 0 := by
  obtain ⟨h1, h2, h3, h4, h5⟩ := cov_iff.1 h
  have hb := cut_below d.ip c.port
  rw [h5] at hb
  unfold cmpCd
  split
  · exact cmpInt_le.2 h3
  · exact hb
theorem cov_trans {a b c : Pt} (h1 : covCd a b = true) (h2 : covCd b c = true) : covCd a c = true := by
  obtain ⟨a1, a2, a3, a4, a5⟩ := cov_iff.1 h1
  obtain ⟨b1, b2, b3, b4, b5⟩ := cov_iff.1 h2
  refine cov_iff.2 ⟨a1, b2, by omega, by rw [b4, a4], ?_⟩
  rw [← cut_less (x := c.ip) a3, b5, a5]
theorem cov_mid {a b c : Pt} (h : covCd a c = true) (hb : rightCd b = true) (h1 : cmpCd a b ≤ 0) (h2 : cmpCd b c ≤ 0) : covCd a b = true := by
  obtain ⟨a1, a2, a3, a4, a5⟩ := cov_iff.1 h
  have e1 := cmpCd_ip h1
  have e2 := cmpCd_ip h2
  have h6 : b.ip.six = a.ip.six := by
    unfold refIp at e1 e2
    by_cases hs : a.ip.six = b.ip.six
    · exact hs.symm
    · rw [if_neg hs] at e1
      rw [if_neg (fun e => hs (by rw [e, a4]))] at e2
      cases ha : a.ip.six with
      | true => rw [ha] at e1; exact absurd e1 (by decide)
      | false =>
        cases hbs : b.ip.six with
        | true => rw [hbs] at e2; exact absurd e2 (by decide)
        | false => rfl
  have m1 := cut_le a.port h6.symm e1
  have m2 := cut_le a.port (by rw [h6, a4]) e2
  rw [(rightCd_bd a1).2.2.2.1] at m1
  rw [a5] at m2
  have he : cutIp b.ip a.port = a.ip := by
    have := refIp_neg a.ip (cutIp b.ip a.port)
    exact refIp_zero (by omega)
  refine cov_iff.2 ⟨a1, hb, ?_, h6, he⟩
  apply Classical.byContradiction
  intro hlt
  have hbb := (rightCd_bd hb).2.2.2.1
  have e3 : b.ip = a.ip := by
    rw [← he, ← hbb, cut_more (by omega)]
  have : cmpCd a b = 1 := by
    unfold cmpCd
    rw [e3, if_pos (refIp_self _)]
    unfold cmpInt
    rw [if_neg (by omega), if_pos (by omega)]
  omega

/-! ### the sweep -/
def lastP (l : List Pt) : Pt := nth l (l.length - 1)
def sweep1 (out : List Pt) (c : Pt) : List Pt := if 0 < out.length ∧ covCd (lastP out) c = true then out else out ++ [c]
def sweep (l : List Pt) : List Pt := l.foldl sweep1 []
structure SwI (P out : List Pt) : Prop where
  sub : ∀ x ∈ out, x ∈ P
  srt : out.Pairwise (fun x y => ltCd x y = true)
  max : ∀ x ∈ out, ∀ d ∈ P, covCd d x = true → d = x
  cov : ∀ x ∈ P, ∃ d ∈ out, covCd d x = true
theorem le_anti {a b : Pt} (h1 : cmpCd a b ≤ 0) (h2 : cmpCd b a ≤ 0) : a = b := cmpCd_zero (by have := cmpCd_neg a b; omega)
theorem last_of {out : List Pt} (h : 0 < out.length) : lastP out ∈ out := by unfold lastP; rw [nth_eq (by omega)]; exact List.getElem_mem _
theorem last_ge {out : List Pt} (hs : out.Pairwise (fun x y => ltCd x y = true)) {x : Pt} (hx : x ∈ out) : cmpCd x (lastP out) ≤ 0 := by
  obtain ⟨j, hj, rfl⟩ := List.mem_iff_getElem.1 hx
  unfold lastP
  rw [nth_eq (by omega)]
  by_cases e : j = out.length - 1
  · subst e; rw [cmpCd_self]; exact Int.le_refl _
  · have := List.pairwise_iff_getElem.1 hs j (out.length - 1) hj (by omega) (by omega)
    unfold ltCd at this
    rw [decide_eq_true_iff] at this
    omega
theorem sw_step {P out : List Pt} {c : Pt} (hI : SwI P out) (hc : rightCd c = true) (hP : ∀ x ∈ P, rightCd x = true ∧ cmpCd x c ≤ 0) : SwI (P ++ [c]) (sweep1 out c) := by
  have hback : ∀ x ∈ out, covCd c x = true → c = x := fun x hx h => le_anti (cov_le h) (hP x (hI.sub x hx)).2
  unfold sweep1
  split
  · rename_i h
    refine ⟨fun x hx => List.mem_append_left _ (hI.sub x hx), hI.srt, fun x hx d hd hcv => ?_, fun x hx => ?_⟩
    · rcases List.mem_append.1 hd with hd | hd
      · exact hI.max x hx d hd hcv
      · rw [List.mem_singleton.1 hd] at hcv ⊢; exact hback x hx hcv
    · rcases List.mem_append.1 hx with hx | hx
      · exact hI.cov x hx
      · rw [List.mem_singleton.1 hx]; exact ⟨_, last_of h.1, h.2⟩
  · rename_i h
    have hno : ∀ d ∈ P, ¬ covCd d c = true := fun d hd hcv => by
      obtain ⟨d', h1, h2⟩ := hI.cov d hd
      have h3 := cov_trans h2 hcv
      have hl : 0 < out.length := List.length_pos_of_mem h1
      have hm := last_of hl
      have h4 := cov_mid h3 (hP _ (hI.sub _ hm)).1 (last_ge hI.srt h1) (hP _ (hI.sub _ hm)).2
      have h5 := hI.max _ hm d' (hI.sub _ h1) h4
      rw [h5] at h3
      exact h ⟨hl, h3⟩
    refine ⟨fun x hx => ?_, ?_, fun x hx d hd hcv => ?_, fun x hx => ?_⟩
    · rcases List.mem_append.1 hx with hx | hx
      · exact List.mem_append_left _ (hI.sub x hx)
      · exact List.mem_append_right _ hx
    · rw [List.pairwise_append]
      refine ⟨hI.srt, List.pairwise_singleton _ _, fun x hx y hy => ?_⟩
      rw [List.mem_singleton.1 hy]
      have hle := (hP x (hI.sub x hx)).2
      unfold ltCd
      rw [decide_eq_true_iff]
      by_cases e : cmpCd x c = 0
      · have hxc := cmpCd_zero e
        exact absurd (by rw [hxc]; exact cov_self hc) (hno x (hI.sub x hx))
      · omega
    · rcases List.mem_append.1 hx with hx | hx
      · rcases List.mem_append.1 hd with hd | hd
        · exact hI.max x hx d hd hcv
        · rw [List.mem_singleton.1 hd] at hcv ⊢; exact hback x hx hcv
      · rw [List.mem_singleton.1 hx] at hcv ⊢
        rcases List.mem_append.1 hd with hd | hd
        · exact absurd hcv (hno d hd)
        · exact List.mem_singleton.1 hd
    · rcases List.mem_append.1 hx with hx | hx
      · obtain ⟨d, h1, h2⟩ := hI.cov x hx
        exact ⟨d, List.mem_append_left _ h1, h2⟩
      · rw [List.mem_singleton.1 hx]; exact ⟨c, List.mem_append_right _ (List.mem_singleton.2 rfl), cov_self hc⟩
theorem sweep_go : ∀ (Q P out : List Pt), SwI P out → (∀ x ∈ P ++ Q, rightCd x = true) → (P ++ Q).Pairwise (fun x y => cmpCd x y ≤ 0) → SwI (P ++ Q) (Q.foldl sweep1 out)
  | [], P, out, h, _, _ => by rw [List.append_nil]; exact h
  | c :: Q, P, out, h, hr, hs => by
    have h1 : SwI (P ++ [c]) (sweep1 out c) := sw_step h (hr c (by simp)) fun x hx => ⟨hr x (by simp [hx]), (List.pairwise_append.1 hs).2.2 x hx c (by simp)⟩
    have := sweep_go Q (P ++ [c]) (sweep1 out c) h1 (by simpa using hr) (by simpa using hs)
    simpa using this
theorem sweep_I {S : List Pt} (hr : ∀ x ∈ S, rightCd x = true) (hs : S.Pairwise (fun x y => cmpCd x y ≤ 0)) : SwI S (sweep S) := by
  have := sweep_go S [] [] ⟨fun x h => (by cases h), List.Pairwise.nil, fun x h => (by cases h), fun x h => (by cases h)⟩ (by simpa using hr) (by simpa using hs)
  have h2 : SwI S (S.foldl sweep1 []) := by simpa using this
  exact h2
/-- What Merge makes of cidrs. -/
def mergeP (l : List Pt) : List Pt := sweep ((l.filter rightCd).mergeSort fun x y => !(Go.Proofs.ltOf cmpCd) y x)
def MaxCd (l : List Pt) (x : Pt) : Prop := x ∈ l ∧ rightCd x = true ∧ ∀ d ∈ l, covCd d x = true → d = x
theorem sort_le (l : List Pt) : (l.mergeSort fun x y => !(Go.Proofs.ltOf cmpCd) y x).Pairwise (fun x y => cmpCd x y ≤ 0) := by
  rw [ltOf_cd]
  refine (List.pairwise_mergeSort (le := fun x y => !ltCd y x) (fun a b c h1 h2 => ?_) (fun a b => ?_) l).imp fun {a b} h => ?_
  · unfold ltCd at *
    simp only [Bool.not_eq_true', decide_eq_false_iff_not] at *
    have n1 := cmpCd_neg a b; have n2 := cmpCd_neg b c; have n3 := cmpCd_neg a c
    have := cmpCd_trans (a := a) (b := b) (c := c) (by omega) (by omega)
    omega
  · unfold ltCd
    have := cmpCd_neg a b
    by_cases h : cmpCd b a < 0
    · simp only [Bool.or_eq_true, Bool.not_eq_true', decide_eq_false_iff_not]; exact .inr (by omega)
    · simp only [Bool.or_eq_true, Bool.not_eq_true', decide_eq_false_iff_not]; exact .inl h
  · unfold ltCd at h
    simp only [Bool.not_eq_true', decide_eq_false_iff_not] at h
    have := cmpCd_neg a b
    omega
theorem mergeP_spec (l : List Pt) : (mergeP l).Pairwise (fun x y => ltCd x y = true) ∧ ∀ x, x ∈ mergeP l ↔ MaxCd l x := by
  have hm : ∀ x, x ∈ ((l.filter rightCd).mergeSort fun x y => !(Go.Proofs.ltOf cmpCd) y x) ↔ x ∈ l ∧ rightCd x = true := fun x => by rw [List.mem_mergeSort, List.mem_filter]
  have hI := sweep_I (fun x hx => ((hm x).1 hx).2) (sort_le (l.filter rightCd))
  refine ⟨hI.srt, fun x => ⟨fun hx => ?_, fun hx => ?_⟩⟩
  · have h1 := (hm x).1 (hI.sub x hx)
    exact ⟨h1.1, h1.2, fun d hd hcv => hI.max x hx d ((hm d).2 ⟨hd, (cov_iff.1 hcv).1⟩) hcv⟩
  · obtain ⟨d, h1, h2⟩ := hI.cov x ((hm x).2 ⟨hx.1, hx.2.1⟩)
    have := hx.2.2 d ((hm d).1 (hI.sub d h1)).1 h2
    rw [← this]; exact h1

/-! ### the reference -/
def StayCd (l : List Pt) (i : Nat) : Prop := rightCd (nth l i) = true ∧ ∀ j, j < l.length → j ≠ i → ¬ (covCd (nth l j) (nth l i) = true ∧ (nth l j ≠ nth l i ∨ j < i))
structure RfI (l : List Pt) (i : Nat) (out : List Pt) : Prop where
  srt : out.Pairwise (fun x y => ltCd x y = true)
  mem : ∀ x, x ∈ out ↔ ∃ j, j < i ∧ StayCd l j ∧ nth l j = x
theorem rf_0 (l : List Pt) : RfI l 0 [] := ⟨List.Pairwise.nil, fun x => ⟨fun h => (by cases h), fun ⟨j, h, _⟩ => absurd h (Nat.not_lt_zero _)⟩⟩
theorem rf_no {l : List Pt} {i : Nat} {out : List Pt} (hI : RfI l i out) (h : ¬ StayCd l i) : RfI l (i + 1) out := ⟨hI.srt, fun x => (hI.mem x).trans ⟨fun ⟨j, h1, h2⟩ => ⟨j, by omega, h2⟩, fun ⟨j, h1, h2, h3⟩ => ⟨j, by
  rcases Nat.lt_or_ge j i with h' | h'
  · exact h'
  · obtain rfl : j = i := by omega
    exact absurd h2 h, h2, h3⟩⟩⟩
theorem rf_yes {l : List Pt} {i : Nat} {out : List Pt} {p : Nat} (hI : RfI l i out) (h : StayCd l i) (hi : i < l.length) (hp : posL cmpCd out (nth l i) out.length = p) : RfI l (i + 1) ((out.take p ++ [nth l i]) ++ out.drop p) := by
  have hnot : nth l i ∉ out := fun hm => by
    obtain ⟨j, h1, h2, h3⟩ := (hI.mem _).1 hm
    refine h.2 j (by omega) (by omega) ⟨?_, .inr h1⟩
    rw [h3]; exact cov_self h.1
  have hins : insL cmpCd out (nth l i) = (out.take p ++ [nth l i]) ++ out.drop p := by
    obtain ⟨b1, -, -⟩ := posL_spec cmpCd out (nth l i) out.length (Nat.le_refl _)
    unfold insL
    simp only [hp]
    rw [hp] at b1
    rw [if_neg]
    rintro ⟨e1, e2⟩
    exact hnot (by rw [← e2, nth_eq (by omega)]; exact List.getElem_mem _)
  obtain ⟨s1, s2⟩ := insL_sorted (c := cmpCd) (lt := ltCd) (fun _ _ => rfl) ltCd_tr ltCd_conn out (nth l i) hI.srt
  rw [hins] at s1 s2
  refine ⟨s1, fun x => (s2 x).trans ?_⟩
  rw [hI.mem x]
  constructor
  · rintro (⟨j, h1, h2⟩ | e)
    · exact ⟨j, by omega, h2⟩
    · exact ⟨i, by omega, h, e.symm⟩
  · rintro ⟨j, h1, h2, h3⟩
    rcases Nat.lt_or_ge j i with h' | h'
    · exact .inl ⟨j, h', h2, h3⟩
    · obtain rfl : j = i := by omega
      exact .inr h3.symm
theorem stay_max (l : List Pt) (x : Pt) : (∃ j, j < l.length ∧ StayCd l j ∧ nth l j = x) ↔ MaxCd l x := by
  constructor
  · rintro ⟨i, hi, hs, rfl⟩
    refine ⟨by rw [nth_eq hi]; exact List.getElem_mem _, hs.1, fun d hd hcv => ?_⟩
    obtain ⟨j, hj, rfl⟩ := List.mem_iff_getElem.1 hd
    rw [← nth_eq hj] at hcv ⊢
    apply Classical.byContradiction
    intro hne
    exact hs.2 j hj (fun e => hne (by rw [e])) ⟨hcv, .inl hne⟩
  · rintro ⟨hm, hr, hx⟩
    have hfirst : ∃ i, i < l.length ∧ nth l i = x ∧ ∀ j, j < i → nth l j ≠ x := by
      have hex : ∃ i, i < l.length ∧ nth l i = x := by
        obtain ⟨i, hi, e⟩ := List.mem_iff_getElem.1 hm
        exact ⟨i, hi, by rw [nth_eq hi]; exact e⟩
      obtain ⟨n, hn⟩ := hex
      have hS : ∀ n, (n < l.length ∧ nth l n = x) → ∃ i, i < l.length ∧ nth l i = x ∧ ∀ j, j < i → nth l j ≠ x := by
        intro n
        induction n using Nat.strongRecOn with
        | _ n ih =>
          intro hn
          by_cases h : ∃ j, j < n ∧ nth l j = x
          · obtain ⟨j, h1, h2⟩ := h
            exact ih j h1 ⟨by omega, h2⟩
          · exact ⟨n, hn.1, hn.2, fun j h1 h2 => h ⟨j, h1, h2⟩⟩
      exact hS n hn
    obtain ⟨i, hi, rfl, hf⟩ := hfirst
    refine ⟨i, hi, ⟨hr, fun j hj hji hbad => ?_⟩, rfl⟩
    have e := hx (nth l j) (by rw [nth_eq hj]; exact List.getElem_mem _) hbad.1
    rcases hbad.2 with h | h
    · exact h e
    · exact hf j h e
theorem rf_end {l : List Pt} {i : Nat} {out : List Pt} (hI : RfI l i out) (hi : ¬ i < l.length) (hle : i ≤ l.length) : out = mergeP l := by
  obtain rfl : i = l.length := by omega
  obtain ⟨h1, h2⟩ := mergeP_spec l
  refine sorted_ext ltCd_irr ltCd_tr _ _ hI.srt h1 fun x => ?_
  rw [hI.mem x, h2 x]
  exact stay_max l x
/-- The addresses that cidrs contain. -/
theorem merge_any (l : List Pt) (a : Ip) : (mergeP l).any (fun c => contCd c a) = l.any (fun c => contCd c a) := by
  rw [Bool.eq_iff_iff, List.any_eq_true, List.any_eq_true]
  constructor
  · rintro ⟨c, hc, h⟩
    exact ⟨c, (((mergeP_spec l).2 c).1 hc).1, h⟩
  · rintro ⟨c, hc, h⟩
    have hm : ∀ x, x ∈ ((l.filter rightCd).mergeSort fun x y => !(Go.Proofs.ltOf cmpCd) y x) ↔ x ∈ l ∧ rightCd x = true := fun x => by rw [List.mem_mergeSort, List.mem_filter]
    have hI := sweep_I (fun x hx => ((hm x).1 hx).2) (sort_le (l.filter rightCd))
    have hr : rightCd c = true := by unfold contCd at h; simp only [Bool.and_eq_true] at h; exact h.1.1.1
    obtain ⟨d, h1, h2⟩ := hI.cov c ((hm c).2 ⟨hc, hr⟩)
    refine ⟨d, h1, ?_⟩
    obtain ⟨d1, d2, d3, d4, d5⟩ := cov_iff.1 h2
    unfold contCd at h ⊢
    simp only [Bool.and_eq_true, decide_eq_true_eq, beq_iff_eq] at h ⊢
    obtain ⟨⟨⟨c1, c2⟩, c3⟩, c4⟩ := h
    exact ⟨⟨⟨d1, c2⟩, by rw [c3, d4]⟩, by rw [← cut_less (x := a) d3, c4, d5]⟩
end Go.Proofs.YthellfigmpjhlaaGreatDoor
