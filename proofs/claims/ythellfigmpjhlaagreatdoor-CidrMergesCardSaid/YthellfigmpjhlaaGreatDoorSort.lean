/- slices.SortFunc on rows of the call's own: from the shelf's contract to the engine's words. -/
import Derived.Test.YthellfigmpjhlaaGreatDoorSlice
import Derived.Shelf.SlSortCmp.NoneTotal
namespace Go.Proofs.YthellfigmpjhlaaGreatDoor
set_option linter.unusedVariables false
set_option linter.unusedSimpArgs false
set_option linter.unusedSectionVars false
open Go Go.RowKit Go.Sort

def rowX (p : Option Addr) : Ext := ⟨fun b => p.map (·.block) = some b, true⟩

section
variable {P : Program} {ρ : Shelf.Ren} {α : Type} {c : α → List Value} {k : Nat} {l : List α} {p : Option Addr} {cap : Nat} {e : TypeId} {W W' w0 : World}

theorem own_grow (h : Own W noD [] W') : ∃ q os', W' = grow (W.drewN q) os' := by
  refine ⟨W'.drawn - W.drawn, W'.heap.extract W.heap.size W'.heap.size, ?_⟩
  have hd := h.drawn rfl
  have hh : W.heap ++ W'.heap.extract W.heap.size W'.heap.size = W'.heap := by
    have hs := h.size
    refine Array.ext_getElem? fun i => ?_
    rw [Array.getElem?_append]
    split
    · exact (h.old i ‹_› (fun x => x)).symm
    · rw [Array.getElem?_extract]
      split
      · congr 1; omega
      · rw [Array.getElem?_eq_none (by omega)]
  have h1 := h.os
  have h2 := h.tape
  have h3 := h.output
  cases W
  cases W'
  simp only [World.drewN, grow] at *
  subst h1 h2 h3
  simp only [World.mk.injEq, hh, true_and]
  first | omega | exact ⟨by omega, trivial⟩ | exact ⟨by omega, trivial, trivial⟩ | (simp; omega)

theorem holds_lt (h : (rowL c k e p cap l).holds (heapF W)) (b : Nat) (hb : p.map (·.block) = some b) : b < W.heap.size := by
  rcases h.2 with ⟨rfl, _⟩ | ⟨g, cur, rfl, h1, _⟩
  · cases hb
  · rw [← Option.some.inj hb]
    have : W.heap[g]? = some _ := h1
    exact (Array.getElem?_eq_some_iff.1 this).1

theorem Own.startRow (h : (rowL c k e p cap l).holds (heapF W)) : Own W (rowX p) [rowL c k e p cap l] W :=
  ⟨rfl, rfl, rfl, Nat.le_refl _, fun _ _ _ => rfl, fun _ => Nat.le_refl _, fun x hx => by rw [List.mem_singleton] at hx; subst hx; exact h, fun x hx b hb => by rw [List.mem_singleton] at hx; subst hx; exact holds_lt h b hb,
    fun x hx b hb => by rw [List.mem_singleton] at hx; subst hx; exact .inr hb, List.pairwise_singleton _ _⟩

variable [Inhabited α]

theorem get!_nth {l : List α} (i : Nat) : l.toArray[i]! = nth l i := by
  unfold nth
  simp [List.getD_eq_getElem?_getD, Array.getElem!_eq_getD, Array.getD_eq_getD_getElem?]

theorem flatK_flat (hk : ∀ a, (c a).length = k) (l : List α) : (flatK c k l.toArray).toList = l.flatMap c := by
  refine List.ext_getElem? fun t => ?_
  by_cases ht : t < l.length * k
  · have hk0 : 0 < k := by rcases Nat.eq_zero_or_pos k with h | h; · rw [h] at ht; simp at ht
                           · exact h
    have hq : t / k < l.length := (Nat.div_lt_iff_lt_mul hk0).2 ht
    have hr : t % k < k := Nat.mod_lt _ hk0
    have he : (t / k) * k + t % k = t := by rw [Nat.mul_comm]; exact Nat.div_add_mod t k
    have e1 := flat_get hk l (t / k) (t % k) hq hr
    rw [he] at e1
    have hs : t < (flatK c k l.toArray).size := by simpa using ht
    have e2 := get_flatK c k l.toArray t (by simpa using ht)
    rw [getElem!_pos (flatK c k l.toArray) t hs] at e2
    rw [e1, Array.getElem?_toList, Array.getElem?_eq_getElem hs, e2, get!_nth]
    have hm : t % k < (c (nth l (t / k))).length := by rw [hk]; exact hr
    rw [List.getElem?_eq_getElem hm, getElem!_pos (c (nth l (t / k))) _ hm]
  · rw [List.getElem?_eq_none (by simp; omega), List.getElem?_eq_none (by rw [flat_len hk]; omega)]

theorem sort_row (L : SlLaysF0.n6 P ρ) (hA : ∀ w, (isAgg (ρ.t 24)).run P w = .ok true w) (hz : ∀ w, (Go.sizeOf (ρ.t 24)).run P w = .ok k w) (hk : ∀ x, (c x).length = k) (h1 : ∀ x, (c x).all (·.oneCell') = true) (cf : α → α → Int) (hS : SWO (ltOf cf))
    (hT : ∀ x y, (ltOf cf) x y = false → (ltOf cf) y x = false → x = y) (g : Nat) (eg : ∀ args w, (callFunc g args).run P w = .ok (.enter g args) w)
    (hcmp : ∀ x y W, Ret P g #[.agg (c x).toArray, .agg (c y).toArray] W fun v W' => v = .int .i64 (cf x y) ∧ Own W noD [] W') (hr : (rowL c k e p cap l).holds (heapF W)) (hn : l.length < 4611686018427387904) :
    Ret P (ρ.f 6) #[.slice p l.length cap, .func (.func g) #[] #[]] W fun v W' => v = .tuple #[] ∧ Own W (rowX p) [rowL c k e p cap (l.mergeSort fun x y => !(ltOf cf) y x)] W' := by
  rcases hr.2 with ⟨rfl, rfl, rfl⟩ | ⟨b, cur, rfl, hb, hcm, hcs, htk⟩
  · refine Ret.of (AnyF.slices_SortFunc_none L none 0 _ W) fun e W' ⟨he, hw⟩ => ⟨_, he, rfl, ?_⟩
    rw [hw, List.mergeSort_nil]
    exact Own.startRow hr
  · have hb' : W.heap[b]? = some (.cells cur e (0, 0)) := hb
    have hlt : b < W.heap.size := (Array.getElem?_eq_some_iff.1 hb').1
    have hH : HoldsK c k W b 0 l.toArray := by
      intro j hj
      have hj' : j < l.length * k := by simpa using hj
      have hf := flatK_flat hk l
      have hle : l.length * k ≤ cur.size := by rw [hcs]; exact Nat.mul_le_mul_right _ hr.1
      refine ⟨?_, by simp [World.frozen?, hb']⟩
      have e1 : W.cell? ⟨b, 0 + j, none⟩ = cur[0 + j]? := by simp only [World.cell?, hb']; rfl
      rw [e1, Nat.zero_add, id, getElem!_pos (flatK c k l.toArray) j hj, ← Array.getElem?_toList]
      have e2 : (cur.toList.take (l.length * k))[j]? = cur.toList[j]? := by rw [List.getElem?_take, if_pos hj']
      rw [← e2, htk, ← hf, Array.getElem?_toList, Array.getElem?_eq_getElem hj]
    have hC : CmpLays P g #[] c k cf b 0 l.toArray.size W := by
      intro m os dk _ x y
      refine Calls.mono (hcmp x y _) fun e' w' ⟨v, he, hv, hO⟩ => ⟨by rw [he, hv], own_grow hO⟩
    refine Ret.of (AnyQ.slices_SortFunc_total L k hA hz c hk (fun x v hv => List.all_eq_true.1 (h1 x) v hv) cf hS g #[] b 0 cap l.toArray W eg hC hH hlt (by simpa using hn) hT) ?_
    rintro e' W' ⟨he, n, os, hw⟩
    refine ⟨_, he, rfl, ?_⟩
    generalize hl' : l.mergeSort (fun x y => !(ltOf cf) y x) = l'
    have hlen : l'.length = l.length := by rw [← hl', List.length_mergeSort]
    rw [show (l.toArray.toList.mergeSort fun x y => !(ltOf cf) y x) = l' from hl'] at hw
    subst hw
    have hheap : ∀ i, i < W.heap.size → (sortWorldK c k W b 0 n l'.toArray os).heap[i]? = (W.heap.modify b (onCells (putCells id 0 (flatK c k l'.toArray))))[i]? := by
      intro i hi
      show ((W.heap.modify b (onCells (putCells id 0 (flatK c k l'.toArray)))) ++ os)[i]? = _
      rw [Array.getElem?_append, if_pos (by simpa using hi)]
    have hsz : W.heap.size ≤ (sortWorldK c k W b 0 n l'.toArray os).heap.size := by
      show _ ≤ ((W.heap.modify b _) ++ os).size
      simp
    have hbn : (sortWorldK c k W b 0 n l'.toArray os).heap[b]? = some (.cells (putCells id 0 (flatK c k l'.toArray) cur) e (0, 0)) := by
      rw [hheap b hlt]
      simp [Array.getElem?_modify, hb', onCells]
    refine ⟨rfl, rfl, rfl, hsz, fun i hi hx => ?_, fun _ => Nat.le_add_right _ _, ?_, ?_, ?_, List.pairwise_singleton _ _⟩
    · rw [hheap i hi, Array.getElem?_modify]
      rw [if_neg (fun h => hx (by rw [← h]; rfl))]
    · intro x hx
      rw [List.mem_singleton] at hx
      subst hx
      refine ⟨by rw [hlen]; exact hr.1, .inr ⟨b, _, rfl, hbn, hcm, by simp [putCells]; exact hcs, ?_⟩⟩
      rw [← flatK_flat hk]
      refine List.ext_getElem? fun t => ?_
      have hle : l.length * k ≤ cur.size := by rw [hcs]; exact Nat.mul_le_mul_right _ hr.1
      rw [List.getElem?_take]
      by_cases ht : t < l'.length * k
      · have hs : t < (flatK c k l'.toArray).size := by simpa using ht
        have hs2 : t < l'.length * k := ht
        have hs3 : t < cur.size := by rw [hlen] at ht; omega
        rw [if_pos ht, Array.getElem?_toList, Array.getElem?_toList, Array.getElem?_eq_getElem hs]
        simp only [putCells, Array.getElem?_mapIdx, Array.getElem?_eq_getElem hs3, Option.map_some, Nat.zero_le, true_and, Nat.zero_add, Nat.sub_zero, id]
        rw [if_pos hs, getElem!_pos (flatK c k l'.toArray) t hs]
      · rw [if_neg ht, List.getElem?_eq_none (by simp; omega)]
    · intro x hx i hi
      rw [List.mem_singleton] at hx
      subst hx
      rw [← Option.some.inj hi]
      exact Nat.lt_of_lt_of_le hlt hsz
    · intro x hx i hi
      rw [List.mem_singleton] at hx
      subst hx
      exact .inr hi
end
end Go.Proofs.YthellfigmpjhlaaGreatDoor
