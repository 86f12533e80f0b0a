/- What came in, opened: cells as the cells of Lean values. -/
import Derived.Test.YthellfigmpjhlaaGreatDoorRow
import Derived.Test.YthellfigmpjhlaaGreatDoorIp

namespace Go.Proofs.YthellfigmpjhlaaGreatDoor
open Go Go.ChangeShapes Go.WideShapes Go.ChangeAt Go.RowKit
set_option linter.unusedVariables false
set_option linter.unusedSimpArgs false
set_option linter.unusedSectionVars false
def cutAt : List Nat → Nat → List Value → List (List Value)
  | [], _, _ => []
  | k :: ks, o, cs => (cs.drop o).take k :: cutAt ks (o + k) cs
theorem cutAt_flat : ∀ (ks : List Nat) (o : Nat) (cs : List Value), cs.length = o + ks.sum → (cutAt ks o cs).flatten = cs.drop o
  | [], o, cs, h => by rw [List.drop_eq_nil_of_le (by rw [h]; simp)]; rfl
  | k :: ks, o, cs, h => by
    rw [cutAt, List.flatten_cons, cutAt_flat ks (o + k) cs (by rw [h, List.sum_cons]; omega), ← List.drop_drop, List.take_append_drop]
section
variable {H : Type} {enc : TypeId × Value → H} {w : World} {spare : Nat → Bool} {held : Bool} {fu : Nat} {cs : List Value} {y : DataW H × List MemPlace}
theorem some_at {β : Type} {xs : List β} {f : Option β} {i k : Nat} (h : f = xs[i]?) (hx : xs.length = k) (hi : i < k) : ∃ z, f = some z := ⟨_, h.trans (List.getElem?_eq_getElem (by omega))⟩
theorem u8_of {n : Int} (h : (Lit.int .u8 n).wf = true) : ∃ b : UInt8, n = (b.toNat : Int) := by
  have h' : (0 : Int) ≤ n ∧ n ≤ 255 := by simp only [Lit.wf, Bool.and_eq_true, decide_eq_true_eq] at h; exact h
  exact ⟨UInt8.ofNat n.toNat, by simp; omega⟩
theorem i64_of {n : Int} (h : (Lit.int .i64 n).wf = true) : -9223372036854775808 ≤ n ∧ n ≤ 9223372036854775807 := by simp only [Lit.wf, Bool.and_eq_true, decide_eq_true_eq] at h; exact h
theorem u8s_of : ∀ (n : Nat) (cs : List Value), cs.length = n → (∀ i, i < n → ∃ b : UInt8, (cs.drop (i * 1)).take 1 = u8L b) → ∃ l : List UInt8, l.length = n ∧ cs = l.flatMap u8L
  | 0, cs, h, _ => ⟨[], rfl, by rw [List.length_eq_zero_iff.1 h]; rfl⟩
  | n + 1, cs, h, hh => by
    match cs, h with
    | c :: t, h =>
      obtain ⟨b, hb⟩ := hh 0 (by omega)
      obtain ⟨l, hl, rfl⟩ := u8s_of n t (by simpa using h) fun i hi => by
        obtain ⟨b', hb'⟩ := hh (i + 1) (by omega)
        exact ⟨b', by simpa using hb'⟩
      have hb : c = .int .u8 (b.toNat : Int) := by simpa [u8L] using hb
      exact ⟨b :: l, by simp [hl], by rw [hb]; rfl⟩

theorem op_4 (h : DataW.trod enc Tryz.prog w 0 spare held fu 4 cs = some y) : ∃ b : Bool, cs = [.bool b] := by
  obtain ⟨b, rfl, _⟩ := DataW.trod_bool Tryz.underlying4 h
  exact ⟨b, rfl⟩
theorem op_5 (h : DataW.trod enc Tryz.prog w 0 spare held fu 5 cs = some y) : ∃ b : UInt8, cs = u8L b := by
  obtain ⟨n, rfl, _, hw⟩ := DataW.trod_int Tryz.underlying5 h
  obtain ⟨b, rfl⟩ := u8_of hw
  exact ⟨b, rfl⟩
theorem op_31 (h : DataW.trod enc Tryz.prog w 0 spare held fu 31 cs = some y) : ∃ l : List UInt8, l.length = 16 ∧ cs = l.flatMap u8L := by
  obtain ⟨xs, m, _, _, hl, hxl, hf⟩ := DataW.trod_array Tryz.underlying31 h
  have hl : cs.length = 16 := hl.trans (by kernel_rfl)
  refine u8s_of 16 cs hl fun i hi => ?_
  have h0 := hf i hi
  obtain ⟨z, hz⟩ := some_at (i := i) h0 hxl hi
  have c1 : Tryz.prog.cellsOf 5 = 1 := by kernel_rfl
  rw [c1] at hz
  exact op_5 hz
theorem op_33 (h : DataW.trod enc Tryz.prog w 0 spare held fu 33 cs = some y) : ∃ a : Ip, cs = ipL a := by
  obtain ⟨xs, m, _, _, hl, hxl, hf⟩ := DataW.trod_struct Tryz.underlying33 h
  have hl : cs.length = 17 := hl.trans (by kernel_rfl)
  have hxl : xs.length = 2 := hxl
  have hcut := cutAt_flat [1, 16] 0 cs (by rw [hl]; rfl)
  obtain ⟨z0, hz0⟩ := some_at (hf 0 _ rfl) hxl (by decide)
  have c0 : Tryz.prog.cellsOf 4 = 1 := by kernel_rfl
  replace hz0 : DataW.trod enc Tryz.prog w 0 spare held m 4 ((cs.drop 0).take (Tryz.prog.cellsOf 4)) = some z0 := hz0
  rw [c0] at hz0
  obtain ⟨a0, e0⟩ := op_4 hz0
  obtain ⟨z1, hz1⟩ := some_at (hf 1 _ rfl) hxl (by decide)
  have c1 : Tryz.prog.cellsOf 31 = 16 := by kernel_rfl
  replace hz1 : DataW.trod enc Tryz.prog w 0 spare held m 31 ((cs.drop 1).take (Tryz.prog.cellsOf 31)) = some z1 := hz1
  rw [c1] at hz1
  obtain ⟨a1, l1, e1⟩ := op_31 hz1
  simp only [cutAt, Nat.zero_add, Nat.reduceAdd, List.drop_zero, List.flatten_cons, List.flatten_nil, List.append_nil] at hcut
  refine ⟨Ip.of a0 a1, ?_⟩
  rw [← hcut]
  simp only [List.drop_zero] at e0 e1
  rw [e0, e1]
  rw [ipL_bytes, Ip.bytes_of _ _ l1]; rfl
theorem op_3 (h : DataW.trod enc Tryz.prog w 0 spare held fu 3 cs = some y) : ∃ n : Int, cs = i64L n ∧ -9223372036854775808 ≤ n ∧ n ≤ 9223372036854775807 := by
  obtain ⟨n, rfl, _, hw⟩ := DataW.trod_int Tryz.underlying3 h
  exact ⟨n, rfl, i64_of hw⟩
theorem op_45 (h : DataW.trod enc Tryz.prog w 0 spare held fu 45 cs = some y) : ∃ a : Pt, cs = ptL a := by
  obtain ⟨xs, m, _, _, hl, hxl, hf⟩ := DataW.trod_struct Tryz.underlying45 h
  have hl : cs.length = 18 := hl.trans (by kernel_rfl)
  have hxl : xs.length = 2 := hxl
  have hcut := cutAt_flat [17, 1] 0 cs (by rw [hl]; rfl)
  obtain ⟨z0, hz0⟩ := some_at (hf 0 _ rfl) hxl (by decide)
  have c0 : Tryz.prog.cellsOf 33 = 17 := by kernel_rfl
  replace hz0 : DataW.trod enc Tryz.prog w 0 spare held m 33 ((cs.drop 0).take (Tryz.prog.cellsOf 33)) = some z0 := hz0
  rw [c0] at hz0
  obtain ⟨a0, e0⟩ := op_33 hz0
  obtain ⟨z1, hz1⟩ := some_at (hf 1 _ rfl) hxl (by decide)
  have c1 : Tryz.prog.cellsOf 3 = 1 := by kernel_rfl
  replace hz1 : DataW.trod enc Tryz.prog w 0 spare held m 3 ((cs.drop 17).take (Tryz.prog.cellsOf 3)) = some z1 := hz1
  rw [c1] at hz1
  obtain ⟨a1, e1, _⟩ := op_3 hz1
  simp only [cutAt, Nat.zero_add, Nat.reduceAdd, List.drop_zero, List.flatten_cons, List.flatten_nil, List.append_nil] at hcut
  refine ⟨⟨a0, a1⟩, ?_⟩
  rw [← hcut]
  simp only [List.drop_zero] at e0 e1
  rw [e0, e1]
  rfl
theorem op_68 (h : DataW.trod enc Tryz.prog w 0 spare held fu 68 cs = some y) : ∃ a : Pt, cs = ptL a := by
  obtain ⟨xs, m, _, _, hl, hxl, hf⟩ := DataW.trod_struct Tryz.underlying68 h
  have hl : cs.length = 18 := hl.trans (by kernel_rfl)
  have hxl : xs.length = 2 := hxl
  have hcut := cutAt_flat [17, 1] 0 cs (by rw [hl]; rfl)
  obtain ⟨z0, hz0⟩ := some_at (hf 0 _ rfl) hxl (by decide)
  have c0 : Tryz.prog.cellsOf 33 = 17 := by kernel_rfl
  replace hz0 : DataW.trod enc Tryz.prog w 0 spare held m 33 ((cs.drop 0).take (Tryz.prog.cellsOf 33)) = some z0 := hz0
  rw [c0] at hz0
  obtain ⟨a0, e0⟩ := op_33 hz0
  obtain ⟨z1, hz1⟩ := some_at (hf 1 _ rfl) hxl (by decide)
  have c1 : Tryz.prog.cellsOf 3 = 1 := by kernel_rfl
  replace hz1 : DataW.trod enc Tryz.prog w 0 spare held m 3 ((cs.drop 17).take (Tryz.prog.cellsOf 3)) = some z1 := hz1
  rw [c1] at hz1
  obtain ⟨a1, e1, _⟩ := op_3 hz1
  simp only [cutAt, Nat.zero_add, Nat.reduceAdd, List.drop_zero, List.flatten_cons, List.flatten_nil, List.append_nil] at hcut
  refine ⟨⟨a0, a1⟩, ?_⟩
  rw [← hcut]
  simp only [List.drop_zero] at e0 e1
  rw [e0, e1]
  rfl
theorem op_59 (h : DataW.trod enc Tryz.prog w 0 spare held fu 59 cs = some y) : ∃ l : List UInt8, l.length = 4 ∧ cs = l.flatMap u8L := by
  obtain ⟨xs, m, _, _, hl, hxl, hf⟩ := DataW.trod_array Tryz.underlying59 h
  have hl : cs.length = 4 := hl.trans (by kernel_rfl)
  refine u8s_of 4 cs hl fun i hi => ?_
  have h0 := hf i hi
  obtain ⟨z, hz⟩ := some_at (i := i) h0 hxl hi
  have c1 : Tryz.prog.cellsOf 5 = 1 := by kernel_rfl
  rw [c1] at hz
  exact op_5 hz
end
theorem okAgg {P : Program} {W : World} {r : Reach} {base : Nat} {t : TypeId} {v : Value} (h0 : (match P.underlying t with | some (.struct _) => true | some (.array _ _) => true | _ => false) = true) (h : Value.okWide P W r base t v) : ∃ cs, v = .agg cs := by
  cases hu : P.underlying t with
  | none => rw [hu] at h0; cases h0
  | some d =>
    rw [hu] at h0
    cases d <;> first | (cases h0; done) | (simp only [Value.okWide, hu] at h; obtain ⟨cs, h1, _⟩ := h; exact ⟨cs, h1⟩)
end Go.Proofs.YthellfigmpjhlaaGreatDoor
