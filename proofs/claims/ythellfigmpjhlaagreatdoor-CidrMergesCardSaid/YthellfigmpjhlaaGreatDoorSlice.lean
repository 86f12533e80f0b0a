/- Rows: slices, what lies in them, and how they grow. -/
import Derived.Test.YthellfigmpjhlaaGreatDoorEng
import Derived.Laws.AppendOwn
namespace Go.Proofs.YthellfigmpjhlaaGreatDoor
set_option linter.unusedVariables false
set_option linter.unusedSimpArgs false
set_option linter.unusedSectionVars false
open Go Go.RowKit

def ab (p : Option Addr) : Nat := match p with | some a => a.block | none => 0
def ao (p : Option Addr) : Nat := match p with | some a => a.off | none => 0
def nth {α : Type} [Inhabited α] (l : List α) (i : Nat) : α := l.getD i default

theorem nth_eq {α : Type} [Inhabited α] {l : List α} {i : Nat} (h : i < l.length) : nth l i = l[i] := by
  unfold nth; rw [List.getD_eq_getElem?_getD, List.getElem?_eq_getElem h]; rfl

section
variable {α : Type} {c : α → List Value} {k : Nat}

theorem flat_len (hk : ∀ a, (c a).length = k) : ∀ l : List α, (l.flatMap c).length = l.length * k
  | [] => by simp
  | a :: t => by simp [flat_len hk t, hk, Nat.add_mul]; omega

theorem flat_get [Inhabited α] (hk : ∀ a, (c a).length = k) : ∀ (l : List α) (i j : Nat), i < l.length → j < k → (l.flatMap c)[i * k + j]? = (c (nth l i))[j]?
  | [], i, j, hi, _ => by simp at hi
  | a :: t, 0, j, _, hj => by
    simp only [List.flatMap_cons, Nat.zero_mul, Nat.zero_add]
    rw [List.getElem?_append_left (by rw [hk]; exact hj)]
    rfl
  | a :: t, i + 1, j, hi, hj => by
    simp only [List.flatMap_cons]
    rw [List.getElem?_append_right (by rw [hk, Nat.add_mul]; omega), hk]
    have := flat_get hk t i j (by simpa using hi) hj
    rw [show (i + 1) * k + j - k = i * k + j by rw [Nat.add_mul]; omega]
    exact this

theorem flat_drop (hk : ∀ a, (c a).length = k) : ∀ (l : List α) (n : Nat), (l.drop n).flatMap c = (l.flatMap c).drop (n * k)
  | [], n => by simp
  | a :: t, 0 => by simp
  | a :: t, n + 1 => by
    simp only [List.drop_succ_cons, List.flatMap_cons]
    rw [flat_drop hk t n, List.drop_append, hk, List.drop_eq_nil_of_le (as := c a) (by rw [hk, Nat.add_mul]; omega), List.nil_append]
    congr 1
    rw [Nat.add_mul]; omega

theorem flat_take (hk : ∀ a, (c a).length = k) : ∀ (l : List α) (n : Nat), (l.take n).flatMap c = (l.flatMap c).take (n * k)
  | [], n => by simp
  | a :: t, 0 => by simp
  | a :: t, n + 1 => by
    simp only [List.take_succ_cons, List.flatMap_cons]
    rw [flat_take hk t n, List.take_append, hk, List.take_of_length_le (l := c a) (by rw [hk, Nat.add_mul]; omega)]
    congr 2
    rw [Nat.add_mul]; omega
end

/-- The cells xs lie from where p points on. -/
structure SlAt (W : World) (p : Option Addr) (xs : List Value) : Prop where
  at' : xs ≠ [] → p = some ⟨ab p, ao p, none⟩
  cell : ∀ j u, xs[j]? = some u → W.cell? ⟨ab p, ao p + j, none⟩ = some u

section
variable {P : Program} {w0 W W' : World} {X : Ext} {L K : List Chunk} {p q : Option Addr} {xs : List Value}
variable {α : Type} {c : α → List Value} {k : Nat} {l ys : List α} {T : TypeId}

theorem SlAt.nil (W : World) (p : Option Addr) : SlAt W p [] := ⟨fun h => (h rfl).elim, fun j u h => by simp at h⟩

theorem SlAt.own (h : SlAt w0 p xs) (hO : Own w0 X L W) (hX : ∀ b, ¬ X.blk b := by exact fun _ x => x) : SlAt W p xs :=
  ⟨h.at', fun j u hu => hO.oldCell (lt_of_cell (h.cell j u hu)) (hX _) (h.cell j u hu)⟩

theorem SlAt.blk {b : Nat} {cs : Array Value} {E : TypeId} {fr : Nat × Nat} (hO : Own w0 X L W) (hm : Chunk.blk b (.cells cs E fr) ∈ L) (h : cs.toList = xs) : SlAt W (some ⟨b, 0, none⟩) xs := by
  subst h
  refine ⟨fun _ => rfl, fun j u hu => ?_⟩
  show W.cell? ⟨b, 0 + j, none⟩ = some u
  rw [hO.cell hm, Nat.zero_add, ← hu, Array.getElem?_toList]

/-- A part of a known block. -/
theorem SlAt.blkAt {b off : Nat} {cs : Array Value} {E : TypeId} {fr : Nat × Nat} (hO : Own w0 X L W) (hm : Chunk.blk b (.cells cs E fr) ∈ L) (h : (cs.toList.drop off).take xs.length = xs) : SlAt W (some ⟨b, off, none⟩) xs := by
  refine ⟨fun _ => rfl, fun j u hu => ?_⟩
  show W.cell? ⟨b, off + j, none⟩ = some u
  rw [hO.cell hm]
  have hj : j < xs.length := (List.getElem?_eq_some_iff.1 hu).1
  rw [← h, List.getElem?_take, if_pos hj, List.getElem?_drop] at hu
  rw [← hu, Array.getElem?_toList]

theorem SlAt.take (h : SlAt W p xs) (n : Nat) : SlAt W p (xs.take n) :=
  ⟨fun hne => h.at' (fun e => hne (by rw [e]; simp)), fun j u hu => h.cell j u (by rw [List.getElem?_take] at hu; split at hu; exact hu; cases hu)⟩

def subP (p : Option Addr) (cap lo k : Nat) : Option Addr := if cap = lo then p else p.map (·.add (lo * k))

theorem SlAt.sub (h : SlAt W p xs) (cap lo k : Nat) (hc : cap = lo → xs.length ≤ lo * k) : SlAt W (subP p cap lo k) (xs.drop (lo * k)) := by
  unfold subP
  split
  · next e => rw [List.drop_eq_nil_of_le (hc e)]; exact SlAt.nil _ _
  · cases p with
    | none =>
      have hx : xs = [] := by
        apply Classical.byContradiction
        intro hne
        have := h.at' hne
        cases this
      subst hx
      simp only [List.drop_nil]
      exact SlAt.nil _ _
    | some a =>
      refine ⟨fun hne => ?_, fun j u hu => ?_⟩
      · have := h.at' (fun e => hne (by rw [e]; simp))
        simp only [Option.some.injEq, ab, ao] at this
        rw [this, Option.map_some, addr_add]
        rfl
      · rw [List.getElem?_drop] at hu
        have hne : xs ≠ [] := by intro e; rw [e] at hu; simp at hu
        have := h.at' hne
        simp only [Option.some.injEq, ab, ao] at this
        have h2 := h.cell _ _ hu
        rw [this, Option.map_some, addr_add]
        simp only [ab, ao] at h2 ⊢
        rw [Nat.add_assoc]
        exact h2

theorem SlAt.dropL (h : SlAt W p (l.flatMap c)) (hk : ∀ a, (c a).length = k) (cap lo : Nat) (hc : l.length ≤ cap) : SlAt W (subP p cap lo k) ((l.drop lo).flatMap c) := by
  rw [flat_drop hk]
  exact h.sub cap lo k (fun e => by rw [flat_len hk, ← e]; exact Nat.mul_le_mul_right _ hc)

theorem SlAt.takeL (h : SlAt W p (l.flatMap c)) (hk : ∀ a, (c a).length = k) (n : Nat) : SlAt W p ((l.take n).flatMap c) := by
  rw [flat_take hk]
  exact h.take _

theorem SlAt.el [Inhabited α] (h : SlAt W p (l.flatMap c)) (hk : ∀ a, (c a).length = k) {i : Nat} (hi : i < l.length) (j : Nat) (u : Value) (hu : (c (nth l i))[j]? = some u) : W.cell? ⟨ab p, ao p + i * k + j, none⟩ = some u := by
  have hj : j < k := by rw [← hk (nth l i)]; exact (List.getElem?_eq_some_iff.1 hu).1
  rw [Nat.add_assoc]
  exact h.cell _ _ (by rw [flat_get hk l i j hi hj]; exact hu)

theorem SlAt.ne (h : SlAt W p (l.flatMap c)) (hk : ∀ a, (c a).length = k) (hk0 : 0 < k) {i : Nat} (hi : i < l.length) : p = some ⟨ab p, ao p, none⟩ := h.at' (fun e => by
  have := flat_len hk l
  rw [e] at this
  have : 0 < l.length * k := Nat.mul_pos (by omega) hk0
  simp at *
  omega)

/-- An element that is a struct or an array. -/
theorem run_loadEl [Inhabited α] {v : Value} {i : Nat} (hA : aggT P T = some true) (hs : sizeT P T = some k) (h : SlAt W p (l.flatMap c)) (hk : ∀ a, (c a).length = k) (hi : i < l.length) (hv : Value.agg (c (nth l i)).toArray = v) :
    (Instr.loadAt T (.pointer (some ⟨ab p, ao p + i * k, none⟩))).run P W = .ok v W := by
  rw [← hv]
  exact run_loadN hA hs (hk _) (h.el hk hi)

/-- A cell of an element. -/
theorem run_loadCell [Inhabited α] {v : Value} {i j : Nat} (hA : aggT P T = some false) (h : SlAt W p (l.flatMap c)) (hk : ∀ a, (c a).length = k) (hi : i < l.length) (hv : (c (nth l i))[j]? = some v) :
    (Instr.loadAt T (.pointer (some ⟨ab p, ao p + i * k + j, none⟩))).run P W = .ok v W :=
  run_load1 hA (h.el hk hi j v hv)

theorem run_loadEl1 [Inhabited α] {v : Value} {i : Nat} (hA : aggT P T = some false) (h : SlAt W p (l.flatMap c)) (hk : ∀ a, (c a).length = 1) (hi : i < l.length) (hv : (c (nth l i))[0]? = some v) :
    (Instr.loadAt T (.pointer (some ⟨ab p, ao p + i * 1, none⟩))).run P W = .ok v W :=
  run_load1 hA (h.el hk hi 0 v hv)

/-! ### Rows of the call's own -/
def rowL {α : Type} (c : α → List Value) (k : Nat) (e : TypeId) (p : Option Addr) (cap : Nat) (l : List α) : Chunk where
  fp b := p.map (·.block) = some b
  holds h := l.length ≤ cap ∧ ((p = none ∧ l = [] ∧ cap = 0) ∨ ∃ g cur, p = some ⟨g, 0, none⟩ ∧ h g = some (.cells cur e (0, 0)) ∧ cap ≤ maxLen ∧ cur.size = cap * k ∧ cur.toList.take (l.length * k) = l.flatMap c)
  loc h h' he hh := by
    refine ⟨hh.1, hh.2.imp id ?_⟩
    rintro ⟨g, cur, rfl, h1, h2⟩
    exact ⟨g, cur, rfl, by rw [← he g rfl]; exact h1, h2⟩

theorem Own.row {e : TypeId} {cap : Nat} (hO : Own w0 X L W) (hm : rowL c k e p cap l ∈ L) : SlAt W p (l.flatMap c) := by
  rcases (hO.holds _ hm).2 with ⟨rfl, rfl, _⟩ | ⟨g, cur, rfl, h1, _, h3, h4⟩
  · exact SlAt.nil _ _
  · refine ⟨fun _ => rfl, fun j u hu => ?_⟩
    show W.cell? ⟨g, 0 + j, none⟩ = some u
    have h1' : W.heap[g]? = some (.cells cur e (0, 0)) := h1
    have : W.cell? ⟨g, 0 + j, none⟩ = cur[0 + j]? := by simp only [World.cell?, h1']; rfl
    rw [this, Nat.zero_add]
    rw [← h4, List.getElem?_take] at hu
    split at hu
    · rw [← hu, Array.getElem?_toList]
    · cases hu

theorem Own.rowCap {e : TypeId} {cap : Nat} (hO : Own w0 X L W) (hm : rowL c k e p cap l ∈ L) : l.length ≤ cap := (hO.holds _ hm).1

/-- A chunk without blocks. -/
theorem Own.cons (h : Own w0 X L W) (d : Chunk) (hf : ∀ b, ¬ d.fp b) (hh : d.holds (heapF W)) : Own w0 X (d :: L) W :=
  ⟨h.os, h.tape, h.output, h.size, h.old, h.drawn, fun x hx => by rcases List.mem_cons.1 hx with rfl | hx; exact hh; exact h.holds x hx,
    fun x hx b hb => by rcases List.mem_cons.1 hx with rfl | hx; exact (hf b hb).elim; exact h.alive x hx b hb,
    fun x hx b hb => by rcases List.mem_cons.1 hx with rfl | hx; exact (hf b hb).elim; exact h.fresh x hx b hb,
    List.pairwise_cons.2 ⟨fun _ _ b hb => (hf b hb).elim, h.disj⟩⟩

theorem Own.nilRow (h : Own w0 X L W) (c : α → List Value) (k : Nat) (e : TypeId) : Own w0 X (rowL c k e none 0 [] :: L) W :=
  h.cons _ (fun b hb => by cases hb) ⟨by simp, .inl ⟨rfl, rfl, rfl⟩⟩

theorem Own.turn {x d : Chunk} {L' : List Chunk} (h : Own w0 X L W) (hu : Upd x d L L') (hf : ∀ b, d.fp b → x.fp b) (hh : x.holds (heapF W) → d.holds (heapF W)) : Own w0 X L' W :=
  ⟨h.os, h.tape, h.output, h.size, h.old, h.drawn, fun y hy => by rcases hu.mem' y hy with rfl | hy; exact hh (h.holds _ hu.mem); exact h.holds y hy,
    fun y hy b hb => by rcases hu.mem' y hy with rfl | hy; exact h.alive _ hu.mem b (hf b hb); exact h.alive y hy b hb,
    fun y hy b hb => by rcases hu.mem' y hy with rfl | hy; exact h.fresh _ hu.mem b (hf b hb); exact h.fresh y hy b hb,
    hu.pair hf h.disj⟩

/-- A block that was made becomes a row. -/
theorem Own.asRow {b : Nat} {cs : Array Value} {e : TypeId} {cap : Nat} {L' : List Chunk} (h : Own w0 X L W) (c : α → List Value) (l : List α) (hu : Upd (.blk b (.cells cs e (0, 0))) (rowL c k e (some ⟨b, 0, none⟩) cap l) L L')
    (hcap : cap ≤ maxLen) (hs : cs.size = cap * k) (hl : l.length ≤ cap) (ht : cs.toList.take (l.length * k) = l.flatMap c) : Own w0 X L' W :=
  h.turn hu (fun b hb => (Option.some.inj hb).symm) fun hh => ⟨hl, .inr ⟨b, cs, rfl, hh, hcap, hs, ht⟩⟩

/-- c is one of L; K are the others. -/
inductive Pick (c : Chunk) : List Chunk → List Chunk → Prop
  | head (t : List Chunk) : Pick c (c :: t) t
  | tail {x : Chunk} {t t' : List Chunk} : Pick c t t' → Pick c (x :: t) (x :: t')

theorem Pick.perm {x : Chunk} (h : Pick x L K) : L.Perm ([x] ++ K) := by
  induction h with
  | head t => exact List.Perm.refl _
  | tail _ ih => exact (ih.cons _).trans (List.Perm.swap ..)

theorem Pick.mem {x : Chunk} (h : Pick x L K) : x ∈ L := by
  induction h with
  | head t => exact List.mem_cons_self
  | tail _ ih => exact List.mem_cons_of_mem _ ih

/-- Chunk x is laid in front. -/
theorem Own.front {x : Chunk} (h : Own w0 X L W) (hp : Pick x L K) : Own w0 X (x :: K) W :=
  have hm : ∀ c, c ∈ x :: K → c ∈ L := fun c hc => hp.perm.mem_iff.2 hc
  ⟨h.os, h.tape, h.output, h.size, h.old, h.drawn, fun c hc => h.holds c (hm c hc), fun c hc => h.alive c (hm c hc), fun c hc => h.fresh c (hm c hc), hp.perm.pairwise h.disj (fun {c d} hcd b hb hb' => hcd b hb' hb)⟩

theorem Own.unfront {x : Chunk} (h : Own w0 X (x :: K) W) (hp : Pick x L K) : Own w0 X L W :=
  have hm : ∀ c, c ∈ L → c ∈ x :: K := fun c hc => hp.perm.mem_iff.1 hc
  ⟨h.os, h.tape, h.output, h.size, h.old, h.drawn, fun c hc => h.holds c (hm c hc), fun c hc => h.alive c (hm c hc), fun c hc => h.fresh c (hm c hc), hp.perm.symm.pairwise h.disj (fun {c d} hcd b hb hb' => hcd b hb' hb)⟩

/-- What differs lies in chunk x, or is new. -/
theorem Own.via {x : Chunk} {L' : List Chunk} (h : Own w0 X L W) (hp : Pick x L K) (k : Own W ⟨x.fp, true⟩ L' W') : Own w0 X (L' ++ K) W' :=
  h.callX (D := [x]) hp.perm (fun b hb => ⟨x, List.mem_cons_self, hb⟩) (fun _ => rfl) k

theorem Own.via1 {x d : Chunk} (h : Own w0 X L W) (hp : Pick x L K) (k : Own W ⟨x.fp, true⟩ [d] W') : Own w0 X (d :: K) W' := h.via hp k

theorem own_row_new {e : TypeId} {cap n : Nat} (Y : Nat → Prop) (W : World) (cs : Array Value) (hW : W'.heap = W.heap.push (.cells cs e (0, 0))) (h1 : W'.os = W.os) (h2 : W'.tape = W.tape) (h3 : W'.output = W.output) (h4 : W.drawn ≤ W'.drawn)
    (hn : n = W.heap.size) (hcap : cap ≤ maxLen) (hs : cs.size = cap * k) (hl : l.length ≤ cap) (ht : cs.toList.take (l.length * k) = l.flatMap c) : Own W ⟨Y, true⟩ [rowL c k e (some ⟨n, 0, none⟩) cap l] W' := by
  subst hn
  refine ⟨h1, h2, h3, by rw [hW]; simp, fun b hb _ => by rw [hW, Array.getElem?_push, if_neg (by omega)], fun _ => h4, ?_, ?_, ?_, List.pairwise_singleton _ _⟩
  · intro x hx
    rw [List.mem_singleton] at hx
    subst hx
    exact ⟨hl, .inr ⟨_, cs, rfl, by show W'.heap[W.heap.size]? = _; rw [hW]; simp, hcap, hs, ht⟩⟩
  · intro x hx b hb
    rw [List.mem_singleton] at hx
    subst hx
    rw [← Option.some.inj hb, hW]
    simp
  · intro x hx b hb
    rw [List.mem_singleton] at hx
    subst hx
    rw [← Option.some.inj hb]
    exact .inl (Nat.le_refl _)

theorem run_append_row {t ty e : TypeId} {z : Value} {bytes cap cq : Nat} (hO : Own w0 X L W) (hp : Pick (rowL c k e p cap l) L K) (ht : P.underlying t = some (.slice e)) (hi0 : (P.info? e).map (fun i => (i.zero, i.size, i.bytes)) = some (some z, k, bytes))
    (hzs : z.cells.size = k) (hk0 : 0 < k) (hk : ∀ a, (c a).length = k) (h1 : ∀ a, (c a).all (·.oneCell') = true) (hys : SlAt W q (ys.flatMap c)) (hmax : (l.length + ys.length) * bytes ≤ 140737488355328) (hlen : l.length + ys.length ≤ maxLen) :
    ∃ p' cap' W', (Builtin.append_ #[t, t] ty #[.slice p l.length cap, .slice q ys.length cq]).run P W = .ok (.slice p' (l ++ ys).length cap') W' ∧ Own w0 X (rowL c k e p' cap' (l ++ ys) :: K) W' ∧ (p' = none → p = none ∧ ys = []) := by
  obtain ⟨i, hi, hie⟩ : ∃ i, P.info? e = some i ∧ (i.zero, i.size, i.bytes) = (some z, k, bytes) := by
    cases h : P.info? e with
    | none => rw [h] at hi0; cases hi0
    | some i => rw [h] at hi0; exact ⟨i, rfl, Option.some.inj hi0⟩
  have hz : i.zero = some z := congrArg (·.1) hie
  have hsize : i.size = k := congrArg (·.2.1) hie
  have hby : i.bytes = bytes := congrArg (·.2.2) hie
  subst hsize
  subst hby
  have hnews : (ys.flatMap c).length = ys.length * i.size := flat_len hk ys
  have h1' : ∀ u ∈ ys.flatMap c, u.oneCell' = true := fun u hu => by
    obtain ⟨a, _, ha⟩ := List.mem_flatMap.1 hu
    exact List.all_eq_true.1 (h1 a) u ha
  have hm : rowL c i.size e p cap l ∈ L := hp.mem
  obtain ⟨hlc, hrow⟩ := hO.holds _ hm
  by_cases hy : ys = []
  · subst hy
    refine ⟨p, cap, W, ?_, ?_, fun e => ⟨e, rfl⟩⟩
    · have hf : (Builtin.firstCells i.size 0 (.slice q 0 cq)).run P W = .ok #[] W := by
        cases q with
        | none => exact run_firstCells_none W _ _ _ _
        | some a => exact run_firstCells_some W i.size 0 a 0 cq [] (by simp) (fun j v h => by simp at h)
      have hl : l.length ≤ cap := hlc
      cases p <;> simp [Builtin.append_, run_underlying ht, sizeOf, typeInfo, hi, Builtin.lenOf, hl, hf, storeCells, Addr.add_lit]
    · rw [List.append_nil]
      exact hO.via1 hp ⟨rfl, rfl, rfl, Nat.le_refl _, fun _ _ _ => rfl, fun _ => Nat.le_refl _, fun x hx => by rw [List.mem_singleton] at hx; subst hx; exact hO.holds _ hm, fun x hx => by rw [List.mem_singleton] at hx; subst hx; exact hO.alive _ hm,
        fun x hx b hb => by rw [List.mem_singleton] at hx; subst hx; exact .inr hb, List.pairwise_singleton _ _⟩
  have hpos : 0 < ys.length := List.length_pos_iff.2 hy
  have hq : q = some ⟨ab q, ao q, none⟩ := hys.ne hk hk0 hpos
  have hcell : ∀ j u, (ys.flatMap c)[j]? = some u → W.cell? ((⟨ab q, ao q, none⟩ : Addr).add j) = some u := fun j u hu => by rw [addr_add]; exact hys.cell j u hu
  generalize hqa : (⟨ab q, ao q, none⟩ : Addr) = qa at hq hcell
  subst hq
  have hml : (l.length : Int) + ys.length ≤ 9223372036854775807 := by simp only [maxLen] at hlen; omega
  rcases hrow with ⟨rfl, rfl, rfl⟩ | ⟨g, cur, rfl, hg, hcm, hcs, htk⟩
  · have hr := run_append_nil (P := P) W t ty e i z ht hi hz qa ys.length cq (ys.flatMap c) hnews hcell hpos (by simpa using hml) (by simp at hmax; omega)
    refine ⟨_, _, W.drew.alloc _, by simpa using hr, ?_, fun e => by cases e⟩
    have hge := grownCap_ge W ys.length 0 e
    refine hO.via1 hp (own_row_new _ W _ rfl rfl rfl rfl (Nat.le_add_right _ _) rfl (grownCap_le_maxLen W _ _ _ (by simpa using hlen)) ?_ (by simpa using hge) ?_)
    · simp only [Array.size_append, List.size_toArray, hnews, size_zeroCells, hzs, ← Nat.add_mul]
      congr 1
      omega
    · simp only [Array.toList_append, List.nil_append]
      rw [← hnews]
      exact List.take_left
  · have hg' : W.heap[g]? = some (.cells cur e (0, 0)) := hg
    by_cases hroom : l.length + ys.length ≤ cap
    · have hfit : l.length * i.size + (ys.flatMap c).length ≤ cur.size := by rw [hnews, hcs, ← Nat.add_mul]; exact Nat.mul_le_mul_right _ hroom
      have hr := run_append_room (P := P) W t ty e i ht hi g l.length cap cur hg' qa ys.length cq (ys.flatMap c) hnews hcell h1' hroom hfit
      refine ⟨_, _, _, by rw [List.length_append]; exact hr, ?_, fun e => by cases e⟩
      refine hO.via1 hp ⟨rfl, rfl, rfl, by simp, fun b hb hx => setRow_other W g b _ (fun e => hx (by rw [e]; rfl)), fun _ => Nat.le_refl _, ?_, ?_, ?_, List.pairwise_singleton _ _⟩
      · intro x hx
        rw [List.mem_singleton] at hx
        subst hx
        refine ⟨by simpa using hroom, .inr ⟨g, _, rfl, setRow_heap W g cur _ e _ hg', hcm, ?_, ?_⟩⟩
        · simp only [List.size_toArray, List.length_append, List.length_take, List.length_drop, Array.length_toList]
          omega
        · rw [htk, List.length_append, Nat.add_mul, ← hnews, ← flat_len hk l, List.flatMap_append, ← List.length_append]
          exact List.take_left
      · intro x hx b hb
        rw [List.mem_singleton] at hx
        subst hx
        have := hO.alive _ hm b hb
        simpa using this
      · intro x hx b hb
        rw [List.mem_singleton] at hx
        subst hx
        exact .inr hb
    · have holds : ∀ j u, (l.flatMap c)[j]? = some u → W.cell? ((⟨g, 0, none⟩ : Addr).add j) = some u := fun j u hu => by
        rw [addr_add]
        exact (hO.row hm).cell j u hu
      have hr := run_append_grow (P := P) W t ty e i z ht hi hz ⟨g, 0, none⟩ l.length cap (l.flatMap c) (flat_len hk l) holds qa ys.length cq (ys.flatMap c) hnews hcell (by omega) (by simpa using hml) (growslice_fits (by omega) hmax)
      refine ⟨_, _, _, by rw [List.length_append]; exact hr, ?_, fun e => by cases e⟩
      have hge := grownCap_ge W (l.length + ys.length) cap e
      refine hO.via1 hp (own_row_new _ W _ rfl rfl rfl rfl (Nat.le_add_right _ _) rfl (grownCap_le_maxLen W _ _ _ hlen) ?_ (by simpa using hge) ?_)
      · simp only [Array.size_append, List.size_toArray, hnews, flat_len hk l, size_zeroCells, hzs, ← Nat.add_mul]
        congr 1
        omega
      · simp only [Array.toList_append]
        rw [List.length_append, Nat.add_mul, ← hnews, ← flat_len hk l, List.flatMap_append, ← List.length_append]
        exact List.take_left

end

section
variable {P : Program} {ops : Array Oper} {Q : Exit → Act → World → Prop} {o : Oper} {K : Act → World → Prop} {a : Act} {W W' w0 : World} {n : Nat} {E : Env} {v v1 v2 : Value} {rest : List Oper} {X : Ext} {L : List Chunk} {p : Option Addr}

theorem L_valW (hF : Fr n a E) (hc : cov E o = true) (hw : wantE ops E o = some true) (hr : (execOp (rho E) o).run P W = .ok (.value v) W') (hd : dstLt o.dst n = true)
    (hn : ∀ a', Fr n a' (putE o.dst v E) → wpList P ops Q rest a' W') : wpList P ops Q (o :: rest) a W := OpK.list (OpK.valW hF hc hw hr hd hn)

theorem x_app {s x : Operand} {t1 t2 ty : TypeId} (hr : (Builtin.append_ #[t1, t2] ty #[v1, v2]).run P W = .ok v W') (hop : o.op = .call { callee := .builtin .append, args := #[s, x], argTypes := #[t1, t2] }) (h1 : rho E s = v1) (h2 : rho E x = v2) (hty : o.type = ty) :
    (execOp (rho E) o).run P W = .ok (.value v) W' := by
  unfold execOp
  simp only [hop, resolve, invoke, builtin, Sem.run_bind, Sem.run_pure, Result.andThen_ok, List.map_toArray, List.map_cons, List.map_nil, h1, h2, hty, hr]

theorem x_idxAddrS {T elem : TypeId} {ax ix : Operand} {len cap k : Nat} {kd : IntKind} {i : Int} (hop : o.op = .indexAddr T ax ix) (h1 : rho E ax = .slice p len cap) (h2 : rho E ix = .int kd i) (hT : P.underlying T = some (.slice elem)) (hs : sizeT P elem = some k) (h0 : 0 ≤ i) (hl : i < len)
    (hp : p = some ⟨ab p, ao p, none⟩) : (execOp (rho E) o).run P W = .ok (.value (.pointer (some ⟨ab p, ao p + i.toNat * k, none⟩))) W := by
  obtain ⟨j, rfl⟩ := Int.eq_ofNat_of_zero_le h0
  exact x_idxAddr hop (h1.trans (by rw [hp]; rfl)) h2 hT hs (by omega)

theorem x_idxPtr {T elem : TypeId} {ax ix : Operand} {b off len k : Nat} {kd : IntKind} {i : Int} (hop : o.op = .indexAddr T ax ix) (h1 : rho E ax = .pointer (some ⟨b, off, none⟩)) (h2 : rho E ix = .int kd i) (hT : P.underlying T = some (.array len elem)) (hs : sizeT P elem = some k) (h0 : 0 ≤ i) (hl : i < len) :
    (execOp (rho E) o).run P W = .ok (.value (.pointer (some ⟨b, off + i.toNat * k, none⟩))) W := by
  obtain ⟨j, rfl⟩ := Int.eq_ofNat_of_zero_le h0
  have hl' : j < len := by omega
  unfold execOp
  simp [hop, h1, h2, Instr.indexAt, asIntOf, underlying, program, Sem.run, hT, Result.andThen, run_sizeOf hs, addr_add, hl', Instr.sureAddr]

/-- 's[lo:hi]' of a slice. -/
theorem x_slSlL {T elem : TypeId} {ax lx : Operand} {hx : Option Operand} {len cap k : Nat} {lo hi : Int} {m r : Nat} (hop : o.op = .slice T ax (some lx) hx none) (h1 : rho E ax = .slice p len cap) (hT : P.underlying T = some (.slice elem)) (hs : sizeT P elem = some k)
    (hlo : ∃ kd, rho E lx = .int kd lo) (hhi : match hx with | some h => ∃ kd, rho E h = .int kd hi | none => hi = (len : Int)) (h0 : 0 ≤ lo) (h2 : lo ≤ hi) (h3 : hi ≤ cap) (hm : hi.toNat - lo.toNat = m) (hr : cap - lo.toNat = r) :
    (execOp (rho E) o).run P W = .ok (.value (.slice (subP p cap lo.toNat k) m r)) W := by
  subst hm hr
  unfold execOp
  have hb1 : ∀ kd, (Instr.sliceBound (.int kd hi) cap .sliceAcap).run P W = .ok hi.toNat W := fun kd => run_bound_lo (by omega) h3
  have hb2 : ∀ kd, (Instr.sliceBound (.int kd lo) hi.toNat .sliceB).run P W = .ok lo.toNat W := fun kd => run_bound_lo h0 (by omega)
  obtain ⟨kd', hh'⟩ := hlo
  cases hx
  · subst hhi
    have hb3 : (Instr.sliceBound (.int kd' lo) len .sliceB).run P W = .ok lo.toNat W := run_bound_lo h0 (by omega)
    simp [hop, h1, hh', Instr.sliceAt, Instr.slice, underlying, program, Sem.run, hT, Result.andThen, Instr.sliceBounds, hb3, run_sizeOf hs, subP]
  · obtain ⟨kd, hh⟩ := hhi
    simp [hop, h1, hh, hh', Instr.sliceAt, Instr.slice, underlying, program, Sem.run, hT, Result.andThen, Instr.sliceBounds, hb1, hb2, run_sizeOf hs, subP]

/-- 's[lo:hi:mx]' of a slice. -/
theorem x_slSl3 {T elem : TypeId} {ax lx hx mx : Operand} {len cap k : Nat} {lo hi mm : Int} {m r : Nat} (hop : o.op = .slice T ax (some lx) (some hx) (some mx)) (h1 : rho E ax = .slice p len cap) (hT : P.underlying T = some (.slice elem)) (hs : sizeT P elem = some k)
    (hlo : ∃ kd, rho E lx = .int kd lo) (hhi : ∃ kd, rho E hx = .int kd hi) (hmx : ∃ kd, rho E mx = .int kd mm) (h0 : 0 ≤ lo) (h2 : lo ≤ hi) (h3 : hi ≤ mm) (h4 : mm ≤ cap) (hm : hi.toNat - lo.toNat = m) (hr : mm.toNat - lo.toNat = r) :
    (execOp (rho E) o).run P W = .ok (.value (.slice (subP p mm.toNat lo.toNat k) m r)) W := by
  subst hm hr
  unfold execOp
  obtain ⟨k1, e1⟩ := hlo
  obtain ⟨k2, e2⟩ := hhi
  obtain ⟨k3, e3⟩ := hmx
  have hb1 : ∀ c, (Instr.sliceBound (.int k3 mm) cap c).run P W = .ok mm.toNat W := fun c => run_bound_lo (by omega) h4
  have hb2 : ∀ c, (Instr.sliceBound (.int k2 hi) mm.toNat c).run P W = .ok hi.toNat W := fun c => run_bound_lo (by omega) (by omega)
  have hb3 : ∀ c, (Instr.sliceBound (.int k1 lo) hi.toNat c).run P W = .ok lo.toNat W := fun c => run_bound_lo h0 (by omega)
  simp [hop, h1, e1, e2, e3, Instr.sliceAt, Instr.slice, underlying, program, Sem.run, hT, Result.andThen, Instr.sliceBounds, hb1, hb2, hb3, run_sizeOf hs, subP]

theorem x_slSlH {T elem : TypeId} {ax : Operand} {hx : Option Operand} {len cap k : Nat} {hi : Int} {m : Nat} (hop : o.op = .slice T ax none hx none) (h1 : rho E ax = .slice p len cap) (hT : P.underlying T = some (.slice elem)) (hs : sizeT P elem = some k)
    (hhi : match hx with | some h => ∃ kd, rho E h = .int kd hi | none => hi = (len : Int)) (h2 : 0 ≤ hi) (h3 : hi ≤ cap) (hm : hi.toNat = m) :
    (execOp (rho E) o).run P W = .ok (.value (.slice p m cap)) W := by
  subst hm
  unfold execOp
  have hb1 : ∀ kd, (Instr.sliceBound (.int kd hi) cap .sliceAcap).run P W = .ok hi.toNat W := fun kd => run_bound_lo h2 h3
  cases hx
  · subst hhi
    cases p <;> simp [hop, h1, Instr.sliceAt, Instr.slice, underlying, program, Sem.run, hT, Result.andThen, Instr.sliceBounds, run_sizeOf hs, Addr.add]
  · obtain ⟨kd, hh⟩ := hhi
    cases p <;> simp [hop, h1, hh, Instr.sliceAt, Instr.slice, underlying, program, Sem.run, hT, Result.andThen, Instr.sliceBounds, hb1, run_sizeOf hs, Addr.add]
end
/-! ### Stores into rows -/
/-- vs in the place of what lay from off on. -/
def over {β : Type} (F : List β) (off : Nat) (vs : List β) : List β := F.take off ++ vs ++ F.drop (off + vs.length)

theorem over_get {β : Type} {F vs : List β} {off : Nat} (h : off + vs.length ≤ F.length) (t : Nat) : (over F off vs)[t]? = if off ≤ t ∧ t < off + vs.length then vs[t - off]? else F[t]? := by
  unfold over
  rw [List.append_assoc]
  by_cases h1 : t < off
  · rw [List.getElem?_append_left (by rw [List.length_take]; omega), List.getElem?_take, if_pos h1, if_neg (by omega)]
  · rw [List.getElem?_append_right (by rw [List.length_take]; omega), List.length_take, Nat.min_eq_left (by omega)]
    by_cases h2 : t < off + vs.length
    · rw [List.getElem?_append_left (by omega), if_pos ⟨by omega, h2⟩]
    · rw [List.getElem?_append_right (by omega), List.getElem?_drop, if_neg (by omega)]
      congr 1
      omega

theorem over_len {β : Type} {F vs : List β} {off : Nat} (h : off + vs.length ≤ F.length) : (over F off vs).length = F.length := by
  unfold over
  simp only [List.length_append, List.length_take, List.length_drop]
  omega

theorem splice_size : ∀ (vs : List Value) (off : Nat) (cs : Array Value), (splice cs off vs).size = cs.size
  | [], _, _ => rfl
  | v :: t, off, cs => by rw [splice, splice_size t]; simp

theorem splice_over : ∀ (vs : List Value) (off : Nat) (cs : Array Value), off + vs.length ≤ cs.size → (splice cs off vs).toList = over cs.toList off vs
  | [], off, cs, _ => by simp [splice, over]
  | v :: t, off, cs, h => by
    have h' : off + 1 + t.length ≤ cs.size := by simp at h; omega
    have hl : off + (v :: t).length ≤ cs.toList.length := by simpa using h
    rw [splice, splice_over t (off + 1) _ (by simpa using h')]
    refine List.ext_getElem? fun i => ?_
    rw [over_get (by simpa using h'), over_get hl]
    simp only [Array.toList_setIfInBounds, List.getElem?_set, List.length_cons]
    by_cases h1 : off + 1 ≤ i ∧ i < off + 1 + t.length
    · rw [if_pos h1, if_pos ⟨by omega, by omega⟩, show i - off = (i - (off + 1)) + 1 by omega, List.getElem?_cons_succ]
    · rw [if_neg h1]
      by_cases h2 : off = i
      · subst h2
        rw [if_pos rfl, if_pos (by simp; omega), if_pos ⟨by omega, by omega⟩, Nat.sub_self]
        rfl
      · rw [if_neg h2, if_neg (by omega)]

theorem flat_set {α : Type} {c : α → List Value} {k : Nat} [Inhabited α] (hk : ∀ a, (c a).length = k) {l : List α} {i j : Nat} {vs : List Value} {x' : α} (hi : i < l.length) (hj : j + vs.length ≤ k) (hx : c x' = over (c (nth l i)) j vs) :
    (l.set i x').flatMap c = over (l.flatMap c) (i * k + j) vs := by
  have hb : i * k + k ≤ l.length * k := by
    have := Nat.mul_le_mul_right k (show i + 1 ≤ l.length from hi)
    rwa [Nat.add_mul, Nat.one_mul] at this
  have hF : (l.flatMap c).length = l.length * k := flat_len hk l
  have hl' : (i * k + j) + vs.length ≤ (l.flatMap c).length := by rw [hF]; omega
  refine List.ext_getElem? fun t => ?_
  rw [over_get hl']
  by_cases ht : t < l.length * k
  · have hk0 : 0 < k := by rcases Nat.eq_zero_or_pos k with h | h; · rw [h] at ht; simp at ht
                           · exact h
    have hq : t / k < l.length := (Nat.div_lt_iff_lt_mul hk0).2 ht
    have hr : t % k < k := Nat.mod_lt _ hk0
    have he : t = (t / k) * k + t % k := by rw [Nat.mul_comm]; exact (Nat.div_add_mod t k).symm
    have e1 := flat_get hk (l.set i x') (t / k) (t % k) (by simpa using hq) hr
    have e2 := flat_get hk l (t / k) (t % k) hq hr
    rw [← he] at e1 e2
    rw [e1, e2]
    have en : nth (l.set i x') (t / k) = if i = t / k then x' else nth l (t / k) := by
      rw [nth_eq (by simpa using hq), nth_eq hq, List.getElem_set]
    rw [en]
    by_cases hiq : i = t / k
    · rw [if_pos hiq, hx, over_get (by rw [hk]; exact hj), hiq]
      have : ∀ m, (t / k) * k + m = (t / k) * k + m := fun _ => rfl
      by_cases h1 : j ≤ t % k ∧ t % k < j + vs.length
      · rw [if_pos h1, if_pos ⟨by omega, by omega⟩]
        congr 1
        omega
      · rw [if_neg h1, if_neg (by omega)]
    · rw [if_neg hiq, if_neg]
      rintro ⟨h1, h2⟩
      apply hiq
      have h3 : t < i * k + k := by omega
      have h4 : i * k ≤ t := by omega
      have := Nat.div_eq_of_lt_le (k := i) (m := t) (n := k) h4 (by rw [Nat.add_mul, Nat.one_mul]; exact h3)
      exact this.symm
  · rw [List.getElem?_eq_none (by rw [flat_len hk]; simpa using ht), if_neg (by omega), List.getElem?_eq_none (by rw [hF]; omega)]

section
variable {P : Program} {w0 W : World} {X : Ext} {L K : List Chunk} {p : Option Addr}
variable {α : Type} {c : α → List Value} {k : Nat} {l : List α} {T : TypeId}

theorem run_store_row [Inhabited α] {e : TypeId} {cap i j m : Nat} {v : Value} {x' : α} (hO : Own w0 X L W) (hp : Pick (rowL c k e p cap l) L K) (hk : ∀ a, (c a).length = k) (hs : sizeT P T = some m) (hm : v.cells.size = m)
    (h1 : v.cells.toList.all (·.oneCell') = true) (hi : i < l.length) (hj : j + m ≤ k) (hx : c x' = over (c (nth l i)) j v.cells.toList) :
    ∃ W', (Instr.storeAt T (.pointer (some ⟨ab p, ao p + i * k + j, none⟩)) v).run P W = .ok () W' ∧ Own w0 X (rowL c k e p cap (l.set i x') :: K) W' := by
  have hmem := hp.mem
  obtain ⟨hlc, hrow⟩ := hO.holds _ hmem
  rcases hrow with ⟨_, rfl, _⟩ | ⟨g, cur, rfl, hg, hcm, hcs, htk⟩
  · simp at hi
  have hg' : W.heap[g]? = some (.cells cur e (0, 0)) := hg
  have hb : i * k + k ≤ l.length * k := by
    have := Nat.mul_le_mul_right k (show i + 1 ≤ l.length from hi)
    rwa [Nat.add_mul, Nat.one_mul] at this
  have hb2 : l.length * k ≤ cur.size := by rw [hcs]; exact Nat.mul_le_mul_right _ hlc
  have hlen : v.cells.toList.length = m := by rw [Array.length_toList]; exact hm
  obtain ⟨W', hr, e1, e2, e3, e7, e4, e5, e6⟩ := run_storeCells' (P := P) v.cells.toList (0 + i * k + j) 0 cur W hg' (by rw [hlen]; omega) h1
  refine ⟨W', ?_, hO.via1 hp ⟨e1, e2, e3, by rw [e4]; exact Nat.le_refl _, fun b _ hb => e6 b (fun e => hb (by rw [e]; rfl)), fun _ => by rw [e7]; exact Nat.le_refl _, ?_, ?_, ?_, List.pairwise_singleton _ _⟩⟩
  · unfold Instr.storeAt Instr.sureAddr storeVar
    simp only [Sem.run_bind, Sem.run_pure, Result.andThen_ok, run_sizeOf hs]
    rw [if_neg (by rw [hm]; simp)]
    exact hr
  · intro x hx'
    rw [List.mem_singleton] at hx'
    subst hx'
    refine ⟨by simpa using hlc, .inr ⟨g, _, rfl, e5, hcm, by rw [splice_size]; exact hcs, ?_⟩⟩
    have hov : 0 + i * k + j + 0 + v.cells.toList.length ≤ cur.size := by rw [hlen]; omega
    rw [flat_set hk hi (by rw [hlen]; exact hj) hx, splice_over _ _ _ hov, ← htk, List.length_set]
    have ho2 : i * k + j + v.cells.toList.length ≤ (cur.toList.take (l.length * k)).length := by rw [List.length_take, hlen, show cur.toList.length = cur.size from Array.length_toList]; omega
    refine List.ext_getElem? fun t => ?_
    rw [over_get ho2, List.getElem?_take, List.getElem?_take]
    by_cases ht : t < l.length * k
    · rw [if_pos ht, if_pos ht, over_get (by rw [Array.length_toList]; exact hov)]
      by_cases h2 : i * k + j ≤ t ∧ t < i * k + j + v.cells.toList.length
      · rw [if_pos (by omega), if_pos h2]
        congr 1
        omega
      · rw [if_neg (by omega), if_neg h2]
    · rw [if_neg ht, if_neg ht, if_neg (by rw [hlen]; omega)]
  · intro x hx' b hb'
    rw [List.mem_singleton] at hx'
    subst hx'
    rw [e4]
    exact hO.alive _ hmem b hb'
  · intro x hx' b hb'
    rw [List.mem_singleton] at hx'
    subst hx'
    exact .inr hb'

theorem run_store_el [Inhabited α] {e : TypeId} {cap i : Nat} {v : Value} {x' : α} (hO : Own w0 X L W) (hp : Pick (rowL c k e p cap l) L K) (hk : ∀ a, (c a).length = k) (hs : sizeT P T = some k)
    (h1 : v.cells.toList.all (·.oneCell') = true) (hi : i < l.length) (hx : v.cells.toList = c x') :
    ∃ W', (Instr.storeAt T (.pointer (some ⟨ab p, ao p + i * k, none⟩)) v).run P W = .ok () W' ∧ Own w0 X (rowL c k e p cap (l.set i x') :: K) W' := by
  have hl : v.cells.toList.length = k := by rw [hx]; exact hk _
  have := run_store_row (P := P) (T := T) (j := 0) (x' := x') hO hp hk hs (by rw [← Array.length_toList]; exact hl) h1 hi (by omega) (by
    unfold over
    rw [hl, List.take_zero, List.drop_eq_nil_of_le (by rw [hk]; omega), List.append_nil, List.nil_append, hx])
  simpa using this

/-- A row that is told to be shorter. -/
theorem Own.rowTake {e : TypeId} {cap : Nat} {L' : List Chunk} (hO : Own w0 X L W) (n : Nat) (hk : ∀ a, (c a).length = k) (hu : Upd (rowL c k e p cap l) (rowL c k e p cap (l.take n)) L L') : Own w0 X L' W :=
  hO.turn hu (fun _ h => h) fun ⟨h1, h2⟩ => ⟨by rw [List.length_take]; omega, h2.imp (fun ⟨a, b, d⟩ => ⟨a, by rw [b]; simp, d⟩) fun ⟨g, cur, a, b, d, e, f⟩ => ⟨g, cur, a, b, d, e, by
    rw [flat_take hk, ← f, List.take_take, List.length_take]
    congr 1
    rcases Nat.le_total n l.length with h | h
    · rw [Nat.min_eq_left h, Nat.min_eq_left (Nat.mul_le_mul_right _ h)]
    · rw [Nat.min_eq_right h, Nat.min_eq_right (Nat.mul_le_mul_right _ h)]⟩⟩

/-- 'clear(s[n:])'. -/
theorem run_clear_row {t ty e : TypeId} {z : Value} {cap n q r : Nat} (hO : Own w0 X L W) (hp : Pick (rowL c k e p cap l) L K) (ht : P.underlying t = some (.slice e)) (hz : ∀ W, (zeroValue e).run P W = .ok z W) (hzs : z.cells.size = k) (hz1 : z.cells.toList.all (·.oneCell') = true)
    (hk : ∀ a, (c a).length = k) (hn : n ≤ l.length) (hq : q = l.length - n) :
    ∃ W', (Builtin.clear_ #[t] ty #[.slice (subP p cap n k) q r]).run P W = .ok (.tuple #[]) W' ∧ Own w0 X (rowL c k e p cap (l.take n) :: K) W' := by
  subst hq
  have hmem := hp.mem
  have same : Own w0 X (rowL c k e p cap (l.take n) :: K) W := by
    have h0 : Own w0 X (rowL c k e p cap l :: K) W := hO.via1 hp ⟨rfl, rfl, rfl, Nat.le_refl _, fun _ _ _ => rfl, fun _ => Nat.le_refl _, fun x hx => by rw [List.mem_singleton] at hx; subst hx; exact hO.holds _ hmem, fun x hx => by rw [List.mem_singleton] at hx; subst hx; exact hO.alive _ hmem,
        fun x hx b hb => by rw [List.mem_singleton] at hx; subst hx; exact .inr hb, List.pairwise_singleton _ _⟩
    exact h0.rowTake n hk (.head _)
  by_cases hz0 : l.length - n = 0
  · refine ⟨W, ?_, same⟩
    rw [hz0]
    cases h : subP p cap n k <;> simp [Builtin.clear_, run_underlying ht]
  obtain ⟨hlc, hrow⟩ := hO.holds _ hmem
  rcases hrow with ⟨_, rfl, _⟩ | ⟨g, cur, rfl, hg, hcm, hcs, htk⟩
  · simp at hz0
  have hg' : W.heap[g]? = some (.cells cur e (0, 0)) := hg
  have hsub : subP (some ⟨g, 0, none⟩) cap n k = some ⟨g, 0 + n * k, none⟩ := by
    unfold subP
    rw [if_neg (by omega), Option.map_some, addr_add]
  have hb1 : n * k + (l.length - n) * k = l.length * k := by rw [← Nat.add_mul]; congr 1; omega
  have hb2 : l.length * k ≤ cur.size := by rw [hcs]; exact Nat.mul_le_mul_right _ hlc
  have hzl : (Builtin.zeroCells z.cells (l.length - n)).toList.length = (l.length - n) * k := by rw [Array.length_toList, size_zeroCells, hzs]
  have hza : (Builtin.zeroCells z.cells (l.length - n)).toList.all (·.oneCell') = true := by
    rw [List.all_eq_true]
    intro u hu
    rw [List.all_eq_true] at hz1
    have : u ∈ z.cells.toList := by
      simp only [Builtin.zeroCells] at hu
      simp at hu
      obtain ⟨w, hw, h⟩ := hu
      have hpos : 0 < z.cells.size := by
        rcases Nat.eq_zero_or_pos z.cells.size with h0 | h0
        · rw [h0] at hw; simp at hw
        · exact h0
      rw [← h, getElem!_pos z.cells _ (Nat.mod_lt _ hpos)]
      exact Array.getElem_mem_toList _
    exact hz1 u this
  obtain ⟨W', hr, e1, e2, e3, e7, e4, e5, e6⟩ := run_storeCells' (P := P) (Builtin.zeroCells z.cells (l.length - n)).toList (0 + n * k) 0 cur W hg' (by rw [hzl]; omega) hza
  refine ⟨W', ?_, ?_⟩
  · rw [hsub]
    obtain ⟨m, hm⟩ : ∃ m, l.length - n = m + 1 := ⟨l.length - n - 1, by omega⟩
    rw [hm] at hr ⊢
    have hr' : (storeCells ⟨g, n * k, none⟩ (Builtin.zeroCells z.cells (m + 1)).toList).run P W = .ok () W' := by rw [← hr]; congr 3; omega
    simp [Builtin.clear_, Sem.run_bind, run_underlying ht, hz, hr']
  · refine hO.via1 hp ⟨e1, e2, e3, by rw [e4]; exact Nat.le_refl _, fun b _ hb => e6 b (fun e => hb (by rw [e]; rfl)), fun _ => by rw [e7]; exact Nat.le_refl _, ?_, ?_, ?_, List.pairwise_singleton _ _⟩
    · intro x hx'
      rw [List.mem_singleton] at hx'
      subst hx'
      refine ⟨by rw [List.length_take]; omega, .inr ⟨g, _, rfl, e5, hcm, by rw [splice_size]; exact hcs, ?_⟩⟩
      rw [splice_over _ _ _ (by rw [hzl]; omega), flat_take hk, ← htk, List.length_take, Nat.min_eq_left hn, List.take_take, Nat.min_eq_left (by omega)]
      unfold over
      rw [List.append_assoc, List.take_append_of_le_length (by rw [List.length_take, Array.length_toList]; omega), List.take_take]
      congr 1
      omega
    · intro x hx' b hb'
      rw [List.mem_singleton] at hx'
      subst hx'
      rw [e4]
      exact hO.alive _ hmem b hb'
    · intro x hx' b hb'
      rw [List.mem_singleton] at hx'
      subst hx'
      exact .inr hb'
end

section
variable {P : Program} {ops : Array Oper} {Q : Exit → Act → World → Prop} {o : Oper} {K : Act → World → Prop} {a : Act} {W W' w0 : World} {n : Nat} {E : Env} {v v1 v2 : Value} {rest : List Oper} {X : Ext} {L : List Chunk} {p : Option Addr}
theorem x_clear {s : Operand} {t1 ty : TypeId} (hr : (Builtin.clear_ #[t1] ty #[v1]).run P W = .ok v W') (hop : o.op = .call { callee := .builtin .clear, args := #[s], argTypes := #[t1] }) (h1 : rho E s = v1) (hty : o.type = ty) :
    (execOp (rho E) o).run P W = .ok (.value v) W' := by
  unfold execOp
  simp only [hop, resolve, invoke, builtin, Sem.run_bind, Sem.run_pure, Result.andThen_ok, List.map_toArray, List.map_cons, List.map_nil, h1, hty, hr]
end
end Go.Proofs.YthellfigmpjhlaaGreatDoor
